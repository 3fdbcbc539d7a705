/- The machine and its runs, part 13. -/
import Derived.Test.YtiibhndkoknmnaaGreatDoorB12
set_option linter.unusedVariables false
set_option linter.unusedSimpArgs false
open Go renaming Value→AT,Program→SZ
open List renaming getElem?_map→To,map_cons→Uc,mem_cons→TG,length_map→SC,cons_append→SK,mem_cons_of_mem→SQ,mem_map→Us,count_append→TH,filter_sublist→U0,length_filter_le→Um,find?_append→VZ,find?_cons_of_neg→Vz,mem_append→Tw,mem_append_left→Uf,mem_append_right→Vd,map_append→Uu,length_append→IT,mem_singleton→SX,nodup_append→T',count_eq_zero→Uk
open Nat renaming reduceAdd→to,le_refl→IN,zero_testBit→TD,lor→OF,le_trans→Tz,le_succ→Tf,lt_succ_self→Td,beq→SF,mul→Vu,ble→Tj,blt→Te,add→U8,land→Un,testBit→U5,reduceShiftRight→AS,reduceAnd→By,reduceBNe→BY,zero_le→Tq,reduceMul→IS
open List.Sublist renaming refl→VV
open Go.Am.AMem renaming put→If
namespace Go.Am.CR
set_option maxRecDepth 100000
open Go Go.Am
variable{Y:Nat->List AT->FM->Nat->OR FM}
variable{n N:Nat}{m M:FM}{vs:List Vo}{tv:AT}
structure nameOk(s:ByteArray):Prop where
 s1:1<=s.size
 s2:s.size<=16
 ch:∀(i:Nat) (h:i<s.size),(97<=s[i].toNat/\s[i].toNat<=122)\/(0<i/\48<=s[i].toNat/\s[i].toNat<=57)
theorem yE{s:ByteArray}:lu PG .s2b [.string s] m n=.ok (.slice (some ⟨n,0,none⟩) s.size UNK) (If m n (some (.cells (bytesOf s) 1 false false))) (n+1) 0 (bit n):=rfl
theorem Hv{s:ByteArray}{i:Nat}(h:i<s.size):lC (bytesOf s) i=some (.int .u8 (s[i].toNat:Int)):=by rw[kD,bytesOf,To,List.getElem?_eq_getElem (by simpa using h)];rfl
theorem aao{s:ByteArray}(h:nameOk s){N b0:Nat}(hb:b0<N)(hm:M b0=some (.cells (bytesOf s) 1 false false))(e4:AT):∀(d j:Nat),j+d=s.size->∀(x0 x2:AT),
  Gv (gD PG EL Y CU [x0,.int .i64 (j:Int),x2,.int .i64 (s.size:Int),.slice (some ⟨b0,0,none⟩) s.size UNK,e4,.string s] M N) λX e M' N' w=>(∃z0 z1,X=.exit 0/\e=[z0,z1,.int .i64 (s.size:Int),.slice (some ⟨b0,0,none⟩) s.size UNK,e4,.string s])/\w=0:=by
 intro d
 induction d with
 |zero=>intro j hj x0 x2;refine gA (L:=CU) (b:=uY) rfl ?_;simp only[uY];simp(disch:=omega)only[W_,eu,to];exact⟨_,_,rfl⟩
 |succ d ih=>
  intro j hj x0 x2;refine gA (L:=CU) (b:=uY) rfl ?_;simp only[uY];have hg:=Hv (s:=s) (i:=j) (by omega);have h16:=h.s2;have hc:=h.ch j (by omega);have h255:s[j].toNat<256:=s[j].toBitVec.isLt;rcases hc with⟨c1,c2⟩|⟨c0,c1,c2⟩
  ·simp(disch:=omega)only[W_,eu,to,hm,hg];exact gR (ih (j+1) (by omega) _ _) λX e m n w ⟨p1,p2⟩=>⟨p1,by rw[p2];rfl⟩
  ·simp(disch:=omega)only[W_,eu,to,hm,hg];exact gR (ih (j+1) (by omega) _ _) λX e m n w ⟨p1,p2⟩=>⟨p1,by rw[p2];rfl⟩
theorem AP{s:ByteArray}(h:nameOk s):Pure (fL PG EL Y 89 [.string s] m n) m n (.bool true):=by
 refine gC e89 rfl rfl ?_;simp only[aeP];simp(disch:=omega)only[W_,eu,to,mE,yE];have t0:=eB m n (some (.cells (bytesOf s) 1 false false));revert t0;generalize (If m n (some (.cells (bytesOf s) 1 false false)):FM)=M0;intro t0;refine ic (aao (Y:=Y) h (N:=n+1) (by omega) t0 _ s.size 0 (by omega) _ _) λX e M' N' r w ⟨⟨z0,z1,hX,he⟩,hw⟩=>?_;subst hX he hw;have h1:=h.s1;have h2:=h.s2;have hne:decide (s=⟨#[]⟩)=false:=decide_eq_false λe=>by rw[e]at h1;exact absurd h1 (by decide)
 simp(disch:=omega)only[W_,eu,to,IA,hne]
 done
def me(Y:Nat->List AT->FM->Nat->OR FM):Prop:=∀(m:FM) (n b:Nat) (tv:AT) (P:List Pr) (s:Nat) (o w:Bool),b<n->m b=some (.cells [tv] s o w)->TP m n tv P->P.length<=65536->Kp (Y 125 [.func (.func 195) #[] #[.pointer (some ⟨b,0,none⟩)]] m n) m n λv m' n'=>ExP m' n' v P
theorem ExP.freeE{M':FM}{N':Nat}{v:AT}{P:List Pr}(h:ExP M N v P)(hv:gy v=true):ExP M' N' v P:=let⟨L,h1,h2⟩:=h;⟨L,h1.free hv,h2⟩
theorem Pb(o:Am.one tv=true):Kp (fL PG EL Y 126 [.agg #[tv]] m n) m n λr m' n'=>∃b,r=.func (.func 195) #[] #[.pointer (some ⟨b,0,none⟩)]/\n<=b/\b<n'/\m' b=some (.cells [tv] 0 false true):=by refine gG (R:=λr m' n'=>∃b,r=.func (.func 195) #[] #[.pointer (some ⟨b,0,none⟩)]/\n<=b/\b<n'/\m' b=some (.cells [tv] 0 false true)) e126 rfl λQ hQ=>?_;simp only[QQ];simp(disch:=omega)only[W_,eu,to,o,dW o,yA];exact hQ _ _ _ _ _ (by omega) (λb hb=>gu) (by simp(disch:=omega)only[fB,eS,eR,and_self]) rfl ⟨n,rfl,by omega,by omega,eB _ _ _⟩
theorem qA(hC:me Y){v:Vo}(h:TP m n tv v.P)(hl:v.P.length<=65536):Kp (fL PG EL Y 60 [mY v tv] m n) m n λr m' n'=>ExP m' n' r v.P:=by refine gN (R:=λr m' n'=>ExP m' n' r v.P) e60 rfl (λ_ _ _ hf h=>h.freeE hf) λQ hQ=>?_;simp only[ae2,mY];have o:=h.one;simp(disch:=omega)only[W_,eu,to,o,dW o];have fr:∀b,b<n->(If m n (some (.cells [.int .i64 (v.n:Int),.int .i64 (v.r:Int),tv] 0 false true)):FM) b=m b:=λb hb=>gu;have T:=h.frame (N':=n+1) (by omega) fr;refine fI (Pb o) λv1 M1 n1 r1 w1 ⟨k1,f1,g1,b,hv1,hb1,hb2,hmb⟩=>?_;subst hv1;have hc:=hC M1 n1 b tv v.P 0 false true hb2 hmb (T.frame k1 f1) hl;rw[<-kU (P:=PG) (E:=EL) (Y:=Y) e125]at hc;simp(disch:=omega)only[W_,eu,to];refine fI hc λv2 M2 n2 r2 w2 ⟨k2,f2,g2,E⟩=>?_;have o2:=E.choose_spec.1.one;simp(disch:=omega)only[W_,eu,to,o2];exact hQ _ _ _ _ _ (by omega) (λb hb=>(f2 b (by omega)).trans ((f1 b (by omega)).trans (fr b hb))) (by simp(disch:=omega)only[fB,eS,eR,and_self,g1,g2]) E
def kW(vs:List Vo)(s:ByteArray):Int:=if(gK vs s).isSome then 10 else if 32<=vs.length then 7 else 0
theorem nQ{v:Vo}:∀{vs:List Vo},v.nm∉vs.map Vo.nm->iG v vs=vs++[v]
 |[],_=>rfl
 |u::vs,h=>by simp only[Uc,TG,not_or]at h;unfold iG;rw[if_neg h.1,nQ h.2];rfl
theorem pz{s:ByteArray}(h:kW vs s=0):s∉vs.map Vo.nm/\vs.length<32:=by
 unfold kW at h;split at h
 ·cases h
 ·rename_i h1;split at h
  ·cases h
  ·rename_i h2;exact⟨yd (by simpa using h1),by omega⟩
theorem Ia{v:Vo}(h:v.nm∉vs.map Vo.nm)(hp:v.P=[]):slv (iG v vs)=slv vs:=by rw[nQ h,lV,nS,hp];simp[slo,slv]
theorem adS:Am.one (.slice none 0 0)=true:=rfl
theorem wF(hM:lL Y 164){S:Nat}{cv mv:AT}(h:FamR S m n cv mv vs)(hl:vs.length<=1000){s:ByteArray}(hs:nameOk s){k r:Nat}(h1:1<=k)(h2:k<=65536)(h3:r<=k):Kp (fL PG EL Y 33 [fV cv mv,.string s,.int .i64 (k:Int),.int .i64 (r:Int)] m n) m n λv m' n'=>(kW vs s=0/\∃mv',v=.tuple #[fV cv mv',.int .i64 0]/\FamR S m' n' cv mv' (iG ⟨s,k,r,[]⟩ vs))\/(kW vs s≠0/\v=.tuple #[fV (.slice none 0 0) (.map none),.int .i64 (kW vs s)]):=by
 refine gG (R:=λv m' n'=>(kW vs s=0/\∃mv',v=.tuple #[fV cv mv',.int .i64 0]/\FamR S m' n' cv mv' (iG ⟨s,k,r,[]⟩ vs))\/(kW vs s≠0/\v=.tuple #[fV (.slice none 0 0) (.map none),.int .i64 (kW vs s)])) e33 rfl λQ hQ=>?_;simp only[afk,fV];have o1:=h.c.one;have o2:=h.m.one;simp(disch:=omega)only[W_,eu,to,o1,o2,dW o1,dW o2];obtain⟨fr,t0,t1⟩:=iu (m:=m) (n:=n) (a:=.cells [cv,mv] 0 false true) (b:=.cells [.slice none 0 0,.map none] 0 false true);revert fr t0 t1;generalize (If (If m n (some (.cells [cv,mv] 0 false true))) (n+1) (some (.cells [.slice none 0 0,.map none] 0 false true)):FM)=M0;intro fr t0 t1;have H0:=h.frame (N':=n+2) (by omega) fr;refine fF (AP hs) λr1=>?_;simp(disch:=omega)only[W_,eu,to,t0,o1,o2];refine fF (vZ (s:=s) o1 H0.m hl) λr2=>?_;by_cases hv:kW vs s=0
 ·rw[show(if(gK vs s).isSome then 10 else if 32<=vs.length then 7 else 0:Int)=0 from hv];simp(disch:=omega)only[W_,eu,to,t0,o1,o2,dW o1];refine fI (sG hM (v:=⟨s,k,r,[]⟩) (tv:=.pointer none) o1 H0.m H0.c (TP.nil _ _)) λv3 M3 n3 r3 w3 ⟨k3,f3,g3,mv',hv3,E3⟩=>?_;subst hv3;have o3:=E3.one;have q3:=E3.gU;have u1:=(f3 (n+1) (by omega)).trans t1;have C3:=H0.c.frame k3 f3;have q1:=C3.gU;simp(disch:=omega)only[W_,eu,to,fV,o1,o3,q1,q3,u1,dW o1,dW o3];have hn:=pz hv;refine hQ _ _ _ _ _ (by omega) (λb hb=>gJ (by omega) ((f3 b (by omega)).trans (fr b hb))) (by simp(disch:=omega)only[fB,eS,eR,and_self,g3]) rfl (.inl ⟨hv,mv',rfl,?_⟩);refine FamR.other (k:=n+1) ?_ u1 (by simp) (by simp) λb hb=>en _ _ _ _ hb;exact⟨by rw[Ia hn.1 rfl];exact C3,E3⟩
 ·rw[show(if(gK vs s).isSome then 10 else if 32<=vs.length then 7 else 0:Int)=kW vs s from rfl];simp(disch:=omega)only[W_,eu,to,t1,kc];refine hQ _ _ _ _ _ (by omega) (λb hb=>gJ (by omega) (fr b hb)) (by simp(disch:=omega)only[fB,eS,eR,and_self]) rfl (.inr ⟨hv,rfl⟩)
end Go.Am.CR
namespace Go.Am
open Go Go.RowKit
section
variable{μ:Type}[AMem μ]{P:SZ}
def Up(n n' r w:Nat):Prop:=n<=n'/\∀i,n'<=i->r.testBit i=false/\w.testBit i=false
theorem Up.refl(n:Nat):Up n n 0 0:=⟨IN _,λi _=>⟨TD i,TD i⟩⟩
theorem Up.trans{n n1 n2 r1 w1 r2 w2:Nat}(h:Up n n1 r1 w1)(k:Up n1 n2 r2 w2):Up n n2 (OF r1 r2) (OF w1 w2):=
 ⟨Tz h.1 k.1,λi hi=>by
  have a:=h.2 i (Tz k.1 hi);have b:=k.2 i hi;rw[gv,gv,a.1,a.2,b.1,b.2]
  exact⟨rfl,rfl⟩⟩
theorem oF{b n i:Nat}(hb:b<n)(hi:n<=i):(bit b).testBit i=false:=by rw[gx];exact decide_eq_false (by omega)
theorem Rv{b n:Nat}(hb:b<n):Up n n (bit b) 0:=⟨IN _,λi hi=>⟨oF hb hi,TD i⟩⟩
theorem Mb(n:Nat){r:Nat}(hr:∀i,n<=i->r.testBit i=false):Up n (n+1) r (bit n):=⟨Tf _,λi hi=>⟨hr i (by omega),oF (Td _) hi⟩⟩
theorem sV{m m':μ}{n n' r wm:Nat}{O:Blk}{f:Nat->AT}{v:AT}(h:nD m n O f=.ok v m' n' r wm):Up n n' r wm:=by
 unfold nD at h;cases hl:AMem.lim m n
 ·rw[hl,cond_false]at h;cases h
 ·rw[hl,cond_true]at h;injection h with e1 e2 e3 e4 e5;subst e2 e3;subst e4 e5;exact Mb _ λi _=>TD i
omit [AMem μ] in
theorem jG{m m':μ}{n n' r wm:Nat}{x:Option AT}{v:AT}(h:iK m n x=.ok v m' n' r wm):Up n n' r wm:=by obtain⟨_,rfl,rfl,rfl,rfl⟩:=iJ h;exact Up.refl _
omit [AMem μ] in
theorem sJ{m m':μ}{n n' r wm b:Nat}{x:Option AT}{v:AT}(hb:b<n)(h:py m n b x=.ok v m' n' r wm):Up n n' r wm:=by obtain⟨_,rfl,rfl,rfl,rfl⟩:=xf h;exact Rv hb
theorem RF{m:μ}{sz n b:Nat}(h:BJ sz (jc m n b)=true):b<n:=by
 unfold BJ at h;split at h
 ·rename_i hg;exact(gW hg).1
 ·cases h
theorem tW{m:μ}{n b:Nat}{f:List AT->OR μ}{v:AT}{m':μ}{n' r wm:Nat}(h:mJ (jc m n b) f=.ok v m' n' r wm):b<n/\∃c,f c=.ok v m' n' r wm:=by
 cases hg:jc m n b with
 |none=>rw[hg]at h;cases h
 |some B=>rw[hg]at h;exact⟨(gW hg).1,pT h⟩
theorem BZ{m m':μ}{n n' r r0 wm b sz:Nat}{opn:Bool}{v0 v:AT}{c:Option (List AT)}(hb:b<n)(hr:∀i,n<=i->r0.testBit i=false)(h:tJ m n b sz opn v0 r0 c=.ok v m' n' r wm):Up n n' r wm:=by
 unfold tJ at h;split at h
 ·injection h with e1 e2 e3 e4 e5;subst e2 e3;subst e4 e5;exact⟨IN _,λi hi=>⟨hr i hi,oF hb hi⟩⟩
 ·cases h
theorem I6{m m':μ}{n n' r r0 wm sz len:Nat}{c:List AT}{v:AT}(hr:∀i,n<=i->r0.testBit i=false)(h:zT m n sz len c r0=.ok v m' n' r wm):Up n n' r wm:=by
 unfold zT at h;cases hl:AMem.lim m n
 ·rw[hl,cond_false]at h;cases h
 ·rw[hl,cond_true]at h;injection h with e1 e2 e3 e4 e5;subst e2 e3;subst e4 e5;exact Mb _ hr
theorem Im{m m':μ}{n n' r wm b:Nat}{v:AT}{es:Option (List (AT×AT))}(hb:b<n)(h:Ai m n b es=.ok v m' n' r wm):Up n n' r wm:=by
 unfold Ai at h;split at h
 ·injection h with e1 e2 e3 e4 e5;subst e2 e3;subst e4 e5;exact⟨IN _,λi hi=>⟨oF hb hi,oF hb hi⟩⟩
 ·cases h
theorem yy{m:μ}{n sz:Nat}{v:AT}{p:List AT×Nat}(h:shown m n sz v=some p):∀i,n<=i->p.2.testBit i=false:=by
 intro i hi;unfold shown at h;split at h
 ·injection h with h;subst h;exact TD i
 ·rename_i b o l c;cases h0:SF l 0
  ·rw[h0,cond_false]at h;unfold pW at h;split at h
   ·rename_i cs s q1 q2 hg;cases hs:szF s sz
    ·rw[hs]at h;cases h
    ·rw[hs,cond_true]at h
     cases hc:je cs o (Vu l sz)with
     |none=>rw[hc]at h;cases h
     |some x=>
      rw[hc]at h;injection h with h
      subst h;exact oF (gW hg).1 hi
   ·cases h
  ·rw[h0,cond_true]at h;injection h with h;subst h;exact TD i
 ·cases h
omit [AMem μ] in
theorem EN{c:Bool}{x:OR μ}{v:AT}{m':μ}{n' r w:Nat}(h:cond c x .no=.ok v m' n' r w):x=.ok v m' n' r w:=by
 cases c
 ·cases h
 ·exact h
theorem abd{m m':μ}{n n' r wm sz:Nat}{v x y:AT}{p:Option (List AT×Nat)}(hp:∀q,p=some q->∀i,n<=i->q.2.testBit i=false)(h:EG sz m n p x y=.ok v m' n' r wm):Up n n' r wm:=by
 unfold EG at h;split at h
 ·split at h
  ·replace h:=EN h;unfold Oi at h;split at h
   ·rename_i hg;replace h:=EN h;exact BZ (gW hg).1 (λi hi=>by rw[gv,hp _ rfl i hi,oF (gW hg).1 hi];rfl) h
   ·cases h
  ·cases h
 ·cases h
theorem aax{m m':μ}{n n' r wm:Nat}{v:AT}{op:MOp}{xs:List AT}(h:lu P op xs m n=.ok v m' n' r wm):Up n n' r wm:=by
 unfold lu at h;split at h
 ·exact sV h
 ·rename_i kt z ok x k;cases hf:gy k
  ·rw[hf,cond_false]at h;cases h
  ·rw[hf,cond_true]at h;split at h
   ·exact jG h
   ·unfold A' at h;split at h
    ·rename_i hg;exact sJ (gW hg).1 h
    ·cases h
   ·cases h
 ·rename_i kt x k y;cases hf:gy k
  ·rw[hf,cond_false]at h;cases h
  ·rw[hf,cond_true]at h;split at h
   ·unfold JA at h;split at h
    ·rename_i hg;exact Im (gW hg).1 h
    ·cases h
   ·cases h
 ·rename_i kt x k;cases hf:gy k
  ·rw[hf,cond_false]at h;cases h
  ·rw[hf,cond_true]at h;split at h
   ·unfold KQ at h;split at h
    ·rename_i hg;exact Im (gW hg).1 h
    ·cases h
   ·cases h
 ·split at h
  ·unfold kN at h;split at h
   ·rename_i c sz opn wr hg;cases hz:SF sz 1
    ·rw[hz]at h;cases h
    ·rw[hz]at h;exact sJ (gW hg).1 h
   ·cases h
  ·cases h
 ·exact abd (λq hq=>yy hq) h
 ·split at h
  ·exact jG h
  ·unfold Ki at h;split at h
   ·rename_i hg;exact sJ (gW hg).1 h
   ·cases h
  ·cases h
 ·split at h
  ·exact sV h
  ·cases h
 ·exact jG h
 ·cases h
theorem H8{e:List AT}{m m':μ}{n n' r wm:Nat}{v:AT}{rec:Nat->List AT->μ->Nat->OR μ}{x:AOp}(hrec:∀f args m n v m' n' r wm,rec f args m n=.ok v m' n' r wm->Up n n' r wm)
  (h:gV P rec e m n x=.ok v m' n' r wm):Up n n' r wm:=by
 cases x with
 |mov x=>injection h with e1 e2 e3 e4 e5;subst e2 e3;subst e4 e5;exact Up.refl _
 |func f a c=>injection h with e1 e2 e3 e4 e5;subst e2 e3;subst e4 e5;exact Up.refl _
 |pick c a b=>exact jG h
 |bin op t x y=>exact jG h
 |una op x=>exact jG h
 |conv k x=>exact jG h
 |fld off x=>exact jG h
 |idx sz x i=>exact jG h
 |ida k sz x i=>exact jG h
 |build z ps=>exact jG h
 |extr i x=>exact jG h
 |nilck x=>exact jG h
 |len s x=>exact jG h
 |mx x y=>exact jG h
 |pur op xs=>exact jG h
 |mp op xs=>exact aax h
 |slc sz x lo hi=>
  replace h:wV m n sz (wU sz (oev e lo) (oev e hi) (ev e x)) (ev e x)=.ok v m' n' r wm:=h;unfold wV at h;split at h
  ·rename_i b o ln c hx;cases hc:SF c UNK
   ·rw[hc,cond_false]at h;exact jG h
   ·rw[hc,cond_true]at h;cases hz:BJ sz (jc m n b)
    ·rw[hz,cond_false]at h;cases h
    ·rw[hz,cond_true]at h;exact sJ (RF hz) h
  ·exact jG h
 |new c=>exact sV h
 |box x=>exact sV h
 |mkl sz len z ps=>
  replace h:D4 m n sz len (ou (mO sz e ps) (pY z len))=.ok v m' n' r wm:=h;unfold D4 at h;split at h
  ·exact sV h
  ·cases h
 |make sz bytes z l c=>
  replace h:wy sz bytes z m n (iB (ev e l)) (iB (ev e c))=.ok v m' n' r wm:=h;unfold wy at h;split at h
  ·rename_i l1 c1 _ _;cases hb:(Tj l1 c1&&Tj (Vu c1 bytes) 281474976710656&&Tj c1 1099511627776)
   ·rw[hb,cond_false]at h;cases h
   ·rw[hb,cond_true]at h;exact sV h
  ·cases h
 |ld1 x=>
  replace h:Ak m n (ev e x)=.ok v m' n' r wm:=h;unfold Ak at h;split at h
  ·obtain⟨hb,c,h⟩:=tW h;exact sJ hb h
  ·cases h
 |ldn k x=>
  replace h:Aj k m n (ev e x)=.ok v m' n' r wm:=h;unfold Aj at h;split at h
  ·obtain⟨hb,c,h⟩:=tW h;exact sJ hb h
  ·cases h
 |st k x y=>
  replace h:stV k (ev e y).cells.toList m n (ev e x)=.ok v m' n' r wm:=h;unfold stV at h;split at h
  ·rename_i b o hx;cases hc:(SF (kO (ev e y).cells.toList) k&&(ev e y).cells.toList.all one)
   ·rw[hc,cond_false]at h;cases h
   ·rw[hc,cond_true]at h;unfold stC at h;split at h
    ·rename_i hg;exact BZ (gW hg).1 (λi hi=>oF (gW hg).1 hi) h
    ·cases h
  ·cases h
 |app sz bytes x y=>
  replace h:nl sz bytes m n (ev e x) (ev e y) (shown m n sz (ev e x)) (shown m n sz (ev e y))=.ok v m' n' r wm:=h;unfold nl at h;split at h
  ·rename_i a b ha hb';have hr:∀i,n<=i->(OF a.2 b.2).testBit i=false:=λi hi=>by rw[gv,yy ha i hi,yy hb' i hi];rfl
   unfold HP at h;split at h
   ·rename_i ax lx cx ay ly cy hx hy;cases hc:(b.1.all one&&Te 0 sz&&Te 0 bytes&&Tj (Vu (U8 lx ly) bytes) 140737488355328)
    ·rw[hc,cond_false]at h;cases h
    ·rw[hc,cond_true]at h;unfold xd at h;split at h
     ·cases hl:SF ly 0
      ·rw[hl,cond_false]at h;exact I6 hr h
      ·rw[hl,cond_true]at h;injection h with e1 e2 e3 e4 e5;subst e2 e3;subst e4 e5;exact⟨IN _,λi hi=>⟨hr i hi,TD i⟩⟩
     ·rename_i bx ox;cases hv:SF cx VAG
      ·rw[hv,cond_false]at h;cases hu:SF cx UNK
       ·rw[hu,cond_false]at h;cases hl:Tj (U8 lx ly) cx
        ·rw[hl,cond_false]at h;exact I6 hr h
        ·rw[hl,cond_true]at h;unfold LD at h;split at h
         ·rename_i hg;exact BZ (gW hg).1 hr h
         ·cases h
       ·rw[hu,cond_true]at h;unfold wZ at h;split at h
        ·rename_i c s hg;cases hl:(AMem.lim m n&&SF s sz)
         ·rw[hl,cond_false]at h;cases h
         ·rw[hl,cond_true]at h;injection h with e1 e2 e3 e4 e5;subst e2 e3;subst e4 e5
          rw[Bool.and_eq_true]at hl;exact⟨Tf _,λi hi=>⟨hr i (Nat.le_of_succ_le hi),by rw[gv,oF (gW hg).1 (Nat.le_of_succ_le hi),oF (Td n) hi];rfl⟩⟩
        ·cases h
      ·rw[hv,cond_true]at h;cases h
     ·cases h
   ·cases h
  ·cases h
 |call f args=>exact hrec _ _ _ _ _ _ _ _ _ h
 |callv x args=>
  replace h:oC rec (evs e args) m n (ev e x)=.ok v m' n' r wm:=h;unfold oC at h;split at h
  ·exact hrec _ _ _ _ _ _ _ _ _ h
  ·cases h
theorem Iw{rec:Nat->List AT->μ->Nat->OR μ}(hrec:∀f args m n v m' n' r wm,rec f args m n=.ok v m' n' r wm->Up n n' r wm):
  ∀(l:List AI) (e:List AT) (m:μ) (n r0 w0:Nat) (X:AX) (e':List AT) (m':μ) (n' r wm:Nat),lj P rec l e m n r0 w0=.ok X e' m' n' r wm->
   ∃r1 w1,r=OF r0 r1/\wm=OF w0 w1/\Up n n' r1 w1
 |[],e,m,n,r0,w0,X,e',m',n',r,wm,h=>by obtain⟨_,_,rfl,rfl,rfl,rfl⟩:=pO h;exact⟨0,0,(ju _).symm,(ju _).symm,Up.refl _⟩
 |i::l,e,m,n,r0,w0,X,e',m',n',r,wm,h=>by
  have ih:=Iw hrec l;have step:∀{o:AOp} {e2:AT->List AT},(kS (gV P rec e m n o) λv m n r' w'=>lj P rec l (e2 v) m n (OF r0 r') (OF w0 w'))=.ok X e' m' n' r wm->∃r1 w1,r=OF r0 r1/\wm=OF w0 w1/\Up n n' r1 w1:=by intro o e2 h;obtain⟨v,m1,n1,r1,w1,h1,h2⟩:=us h;have l1:=H8 hrec h1;obtain⟨r2,w2,rfl,rfl,l2⟩:=ih _ _ _ _ _ _ _ _ _ _ _ h2;exact⟨OF r1 r2,OF w1 w2,jZ _ _ _,jZ _ _ _,l1.trans l2⟩
  cases i with
  |nop i=>exact ih _ _ _ _ _ _ _ _ _ _ _ h
  |op o=>exact step (e2:=λv=>v::e) h
  |opg o gi gw=>
   replace h:cond (ia gw (iA e gi)) (kS (gV P rec e m n o) λv m n r' w'=>lj P rec l (v::e) m n (OF r0 r') (OF w0 w')) (lj P rec l (undef::e) m n r0 w0)=.ok X e' m' n' r wm:=h;cases hw:ia gw (iA e gi)
   ·rw[hw,cond_false]at h;exact ih _ _ _ _ _ _ _ _ _ _ _ h
   ·rw[hw,cond_true]at h;exact step (e2:=λv=>v::e) h
  |eff o=>exact step (e2:=λ_=>e) h
  |effg o gi gw=>
   replace h:cond (ia gw (iA e gi)) (kS (gV P rec e m n o) λv m n r' w'=>lj P rec l e m n (OF r0 r') (OF w0 w')) (lj P rec l e m n r0 w0)=.ok X e' m' n' r wm:=h;cases hw:ia gw (iA e gi)
   ·rw[hw,cond_false]at h;exact ih _ _ _ _ _ _ _ _ _ _ _ h
   ·rw[hw,cond_true]at h;exact step (e2:=λ_=>e) h
theorem Iu{rec:Nat->List AT->μ->Nat->OR μ}(hrec:∀f args m n v m' n' r wm,rec f args m n=.ok v m' n' r wm->Up n n' r wm):
  ∀(l:List AI) (bs:List Nat) (k:Nat) (done:List (Nat×Nat×Nat)) (e:List AT) (m:μ) (n r0 w0:Nat) (X:AX) (e':List AT) (m':μ) (n' r wm:Nat),jY P rec l bs k done e m n r0 w0=.ok X e' m' n' r wm->
   ∃r1 w1,r=OF r0 r1/\wm=OF w0 w1/\Up n n' r1 w1
 |[],bs,k,done,e,m,n,r0,w0,X,e',m',n',r,wm,h=>by obtain⟨_,_,rfl,rfl,rfl,rfl⟩:=pO h;exact⟨0,0,(ju _).symm,(ju _).symm,Up.refl _⟩
 |i::l,bs,k,done,e,m,n,r0,w0,X,e',m',n',r,wm,h=>by
  have ih:=Iu hrec l
  have step:∀{o:AOp} {e2:AT->List AT},(okD (bs.headD 0) k done (iQ P rec e m n o) λv m n r' w' done=>jY P rec l bs.tail (Nat.succ k) done (e2 v) m n (OF r0 r') (OF w0 w'))=.ok X e' m' n' r wm->∃r1 w1,r=OF r0 r1/\wm=OF w0 w1/\Up n n' r1 w1:=by
   intro o e2 h;obtain⟨v,m1,n1,r1,w1,h1,h2⟩:=Gq h;have l1:=H8 hrec (yw h1).2;rcases h2 with⟨_,h2⟩|⟨_,h2⟩
   all_goals
    obtain⟨r2,w2,rfl,rfl,l2⟩:=ih _ _ _ _ _ _ _ _ _ _ _ _ _ _ h2;exact⟨OF r1 r2,OF w1 w2,jZ _ _ _,jZ _ _ _,l1.trans l2⟩
  cases i with
  |nop i=>exact ih _ _ _ _ _ _ _ _ _ _ _ _ _ _ h
  |op o=>exact step (e2:=λv=>v::e) h
  |opg o gi gw=>
   replace h:cond (ia gw (iA e gi)) (okD (bs.headD 0) k done (iQ P rec e m n o) λv m n r' w' done=>jY P rec l bs.tail (Nat.succ k) done (v::e) m n (OF r0 r') (OF w0 w')) (jY P rec l bs.tail (Nat.succ k) done (undef::e) m n r0 w0)=.ok X e' m' n' r wm:=h;cases hw:ia gw (iA e gi)
   ·rw[hw,cond_false]at h;exact ih _ _ _ _ _ _ _ _ _ _ _ _ _ _ h
   ·rw[hw,cond_true]at h;exact step (e2:=λv=>v::e) h
  |eff o=>exact step (e2:=λ_=>e) h
  |effg o gi gw=>
   replace h:cond (ia gw (iA e gi)) (okD (bs.headD 0) k done (iQ P rec e m n o) λv m n r' w' done=>jY P rec l bs.tail (Nat.succ k) done e m n (OF r0 r') (OF w0 w')) (jY P rec l bs.tail (Nat.succ k) done e m n r0 w0)=.ok X e' m' n' r wm:=h;cases hw:ia gw (iA e gi)
   ·rw[hw,cond_false]at h;exact ih _ _ _ _ _ _ _ _ _ _ _ _ _ _ h
   ·rw[hw,cond_true]at h;exact step (e2:=λ_=>e) h
omit [AMem μ] in
theorem s6{m0 m m':μ}{n0 n n' r r0 w0 wm:Nat}{v0 v:AT}(h0:Up n0 n r0 w0)(h:iI m0 n0 v0 m n r0 w0=.ok v m' n' r wm):Up n0 n' r wm:=by
 unfold iI at h;cases hb:(gy v0&&SF (Nat.mod w0 (bit n0)) 0)
 ·rw[hb,cond_false]at h;injection h with e1 e2 e3 e4 e5;subst e2 e3;subst e4 e5;exact h0
 ·rw[hb,cond_true,gX]at h;injection h with e1 e2 e3 e4 e5;subst e2 e3;subst e4 e5
  refine⟨IN _,λi hi=>⟨?_,TD i⟩⟩;show(r0 % bit n0).testBit i=false;rw[show bit n0=2 ^ n0 by rw[bit];exact Nat.one_shiftLeft n0,Nat.testBit_mod_two_pow];simp only[Bool.and_eq_false_imp,decide_eq_true_eq];omega
theorem Sb{e:List AT}{m:μ}{n:Nat}{vs:List AT}{r:Nat}{x:ROp}{p:List AT×Nat}(hr:∀i,n<=i->r.testBit i=false)(h:BU e m n vs r x=some p):∀i,n<=i->p.2.testBit i=false:=by
 intro i hi
 have key:∀{f:Nat->List AT->Option AT} {v:AT},yN m n vs r f v=some p->p.2.testBit i=false:=by
  intro f v h;unfold yN at h;split at h
  ·rename_i b o
   cases hg:jc m n b with
   |none=>rw[hg]at h;cases h
   |some B=>
    rw[hg]at h
    cases B with
    |map es=>cases h
    |cells c s q1 q2=>
     replace h:Option.rec (motive:=λ_=>Option (List AT×Nat)) none (λv=>some (v::vs,OF r (bit b))) (f o c)=some p:=h
     cases hf:f o c with
     |none=>rw[hf]at h;cases h
     |some v=>
      rw[hf]at h;injection h with h
      subst h;show(OF r (bit b)).testBit i=false;rw[gv,hr i hi,oF (gW hg).1 hi];rfl
  ·cases h
 cases x with
 |v j=>injection h with h;subst h;exact hr i hi
 |cell j=>exact key h
 |cells j k=>exact key h
theorem BV{e:List AT}{m:μ}{n:Nat}:∀{l:List ROp} {p:List AT×Nat},pX e m n l=some p->∀i,n<=i->p.2.testBit i=false
 |[],p,h=>by intro i hi;injection h with h;subst h;exact TD i
 |x::l,p,h=>by
  replace h:Option.rec (motive:=λ_=>Option (List AT×Nat)) none (λp=>BU e m n p.1 p.2 x) (pX e m n l)=some p:=h
  cases hq:pX e m n l with
  |none=>rw[hq]at h;cases h
  |some q=>rw[hq]at h;exact Sb (BV hq) h
theorem CJ{E:Nat->Option AFn}{Y:Nat->List AT->μ->Nat->OR μ}(hY:∀f args m n v m' n' r wm,Y f args m n=.ok v m' n' r wm->Up n n' r wm){rec:AC->List AT->μ->Nat->CR μ}(hrec:∀c e m n X e' m' n' r wm,rec c e m n=.ok X e' m' n' r wm->Up n n' r wm)
  {f:Nat} {args:List AT} {m m':μ} {n n' r wm:Nat} {v:AT} (h:im E Y rec f args m n=.ok v m' n' r wm):Up n n' r wm:=by
 unfold im at h
 cases hE:E f with
 |none=>rw[hE]at h;exact hY _ _ _ _ _ _ _ _ _ h
 |some fn=>
  rw[hE]at h;replace h:pR rec args m n fn=.ok v m' n' r wm:=h;unfold pR at h;cases hl:SF (kO args) fn.na
  ·rw[hl,cond_false]at h;cases h
  ·rw[hl,cond_true]at h
   cases hr:rec fn.code args m n with
   |no=>rw[hr]at h;cases h
   |ok X e1 m1 n1 r1 w1=>
    rw[hr]at h;replace h:lZ fn m n e1 m1 n1 r1 w1 X=.ok v m' n' r wm:=h;have l1:=hrec _ _ _ _ _ _ _ _ _ _ hr;unfold lZ at h;split at h
    ·unfold vH at h;split at h
     ·rename_i vs r' hq;have hq':=BV hq;exact s6 ⟨l1.1,λi hi=>⟨by rw[gv,(l1.2 i hi).1,hq' i hi];rfl,(l1.2 i hi).2⟩⟩ h
     ·cases h
    ·exact s6 l1 h
    ·cases h
theorem xy{E:Nat->Option AFn}{Y:Nat->List AT->μ->Nat->OR μ}(hY:∀f args m n v m' n' r wm,Y f args m n=.ok v m' n' r wm->Up n n' r wm):∀(k:Nat) (c:AC) (e:List AT) (m:μ) (n:Nat) (X:AX) (e':List AT) (m':μ) (n' r wm:Nat),exec P E Y k c e m n=.ok X e' m' n' r wm->Up n n' r wm
 |0,c,e,m,n,X,e',m',n',r,wm,h=>by cases h
 |k+1,c,e,m,n,X,e',m',n',r,wm,h=>by
  have ih:=xy (E:=E) (Y:=Y) hY k;replace h:IM P E Y (exec P E Y k) c e m n=.ok X e' m' n' r wm:=h
  have norm:∀{f:List AT->μ->Nat->CR μ} {X1:AX} {e1:List AT} {m1:μ} {n1 r1 w1:Nat},Up n n1 r1 w1->(∀e m n X e' m' n' r wm,f e m n=.ok X e' m' n' r wm->Up n n' r wm)->ke f X1 e1 m1 n1 r1 w1=.ok X e' m' n' r wm->Up n n' r wm:=by
   intro f X1 e1 m1 n1 r1 w1 l1 hf h;unfold ke at h;split at h
   ·obtain⟨r2,w2,h2,rfl,rfl⟩:=zV h;exact l1.trans (hf _ _ _ _ _ _ _ _ _ h2)
   ·injection h with e1 e2 e3 e4 e5 e6;subst e3 e4;subst e5 e6;exact l1
  cases c with
  |skip=>injection h with e1 e2 e3 e4 e5 e6;subst e3 e4;subst e5 e6;exact Up.refl _
  |reg l=>obtain⟨r1,w1,rfl,rfl,l1⟩:=Iw (P:=P) (λf args m n v m' n' r wm h=>CJ hY ih h) l _ _ _ _ _ _ _ _ _ _ _ h;rw[j',j'];exact l1
  |regD l bs=>obtain⟨r1,w1,rfl,rfl,l1⟩:=Iu (P:=P) (λf args m n v m' n' r wm h=>CJ hY ih h) l _ _ _ _ _ _ _ _ _ _ _ _ _ _ h;rw[j',j'];exact l1
  |seq a b=>obtain⟨X1,e1,m1,n1,r1,w1,h1,h2⟩:=jU h;exact norm (ih _ _ _ _ _ _ _ _ _ _ h1) (λ_ _ _ _ _ _ _ _ _ h=>ih _ _ _ _ _ _ _ _ _ _ h) h2
  |cond x a b=>
   replace h:lJ (exec P E Y k a e m n) (exec P E Y k b e m n) (ev e x)=.ok X e' m' n' r wm:=h;unfold lJ at h;split at h
   ·rename_i t _;cases t
    ·exact ih _ _ _ _ _ _ _ _ _ _ h
    ·exact ih _ _ _ _ _ _ _ _ _ _ h
   ·cases h
  |block id sh b=>
   obtain⟨X1,e1,m1,n1,r1,w1,h1,h2⟩:=jU h;have l1:=ih _ _ _ _ _ _ _ _ _ _ h1;unfold oR at h2;split at h2
   ·rename_i i;cases hi:SF i id
    ·rw[hi,cond_false]at h2;injection h2 with e1 e2 e3 e4 e5 e6;subst e3 e4;subst e5 e6;exact l1
    ·rw[hi,cond_true]at h2;injection h2 with e1 e2 e3 e4 e5 e6;subst e3 e4;subst e5 e6;exact l1
   ·injection h2 with e1 e2 e3 e4 e5 e6;subst e3 e4;subst e5 e6;exact l1
  |loop sh b=>obtain⟨X1,e1,m1,n1,r1,w1,h1,h2⟩:=jU h;exact norm (ih _ _ _ _ _ _ _ _ _ _ h1) (λ_ _ _ _ _ _ _ _ _ h=>ih _ _ _ _ _ _ _ _ _ _ h) h2
  |pre sel d c=>exact ih _ _ _ _ _ _ _ _ _ _ h
  |post c sel d=>
   obtain⟨X1,e1,m1,n1,r1,w1,h1,h2⟩:=jU h;have l1:=ih _ _ _ _ _ _ _ _ _ _ h1;unfold rz at h2;split at h2
   ·injection h2 with e1 e2 e3 e4 e5 e6;subst e3 e4;subst e5 e6;exact l1
   ·injection h2 with e1 e2 e3 e4 e5 e6;subst e3 e4;subst e5 e6;exact l1
  |exit id=>injection h with e1 e2 e3 e4 e5 e6;subst e3 e4;subst e5 e6;exact Up.refl _
  |ret rs=>
   replace h:tA e m n (pX e m n rs)=.ok X e' m' n' r wm:=h;unfold tA at h;split at h
   ·rename_i vs r' hq;injection h with e1 e2 e3 e4 e5 e6;subst e3 e4;subst e5 e6
    exact⟨IN _,λi hi=>⟨BV hq i hi,TD i⟩⟩
   ·cases h
theorem zK{E:Nat->Option AFn}{Y:Nat->List AT->μ->Nat->OR μ}(hY:∀f args m n v m' n' r wm,Y f args m n=.ok v m' n' r wm->Up n n' r wm){f:Nat}{args:List AT}{m m':μ}{n n' r w:Nat}{v:AT}(h:im E Y (gD P E Y) f args m n=.ok v m' n' r w):Up n n' r w:=
 CJ hY (λc e m n X e' m' n' r wm h=>by
  obtain⟨k,hk⟩:=kx h
  exact xy hY k c e m n X e' m' n' r wm hk) h
end
end Go.Am
namespace Go.Am.CR
set_option maxRecDepth 100000
open Go Go.Am
variable{Y:Nat->List AT->FM->Nat->OR FM}
variable{vs B A:List Vo}{S n k a r b f w0 r0 w1:Nat}{m:FM}{cv mv v tv:AT}{P:List Pr}{args e:List AT}{kv:Bool}{Q:AX->List AT->FM->Nat->Nat->Prop}{K:List Frm}{l:List Nat}{xs:List Ex}
theorem Inv.found{s:ByteArray}{v:Vo}(h:Inv S vs)(hv:gK vs s=some v):v.Ok S:=by obtain⟨A,B,rfl,_⟩:=jj hv;exact h.vok v (by simp)
theorem RP{w:Vo}(h:w.nm∉vs.map Vo.nm):(slv (iG w vs)).Perm (slv vs++slo w.P):=by rw[nQ h,lV,nS];simp[slv]
theorem nL{i:Nat}(h:r.testBit i=false):Un (bit i) r=0:=by
 apply Nat.eq_of_testBit_eq;intro k;show(bit i &&& r).testBit k=_;rw[Nat.testBit_and,gx,TD];by_cases hk:i=k
 ·subst hk;rw[h,Bool.and_false]
 ·simp[hk]
def YUp(Y:Nat->List AT->FM->Nat->OR FM):Prop:=∀f args m n v m' n' r wm,Y f args m n=.ok v m' n' r wm->Up n n' r wm
theorem mw{P:SZ}{E:Nat->Option AFn}{l:List (AI×Nat)}{done:List (Nat×Nat×Nat)}{R:AT->FM->Nat->Nat->Prop}(hY:∀f args m n v m' n' r wm,Y f args m n=.ok v m' n' r wm->Up n n' r wm)(h:Rt (fL P E Y f args m n) R)(hk:∀v m' n' r' w',R v m' n' w'->(∀i,n'<=i->Un (bit i) r'=0/\Un (bit i) w'=0)->Wr P E Y K w0 (rm (pB P (fL P E Y) l (mj b kv k done e r0 w1 (.ok v m' n' r' w')))) Q):Wr P E Y K w0 (rm (pB P (fL P E Y) l (mj b kv k done e r0 w1 (fL P E Y f args m n)))) Q:=by obtain⟨v,m',n',r',w',hx,hq⟩:=h.some;rw[hx];have hu:=zK hY hx;exact hk _ _ _ _ _ hq λi hi=>⟨nL (hu.2 i hi).1,nL (hu.2 i hi).2⟩
theorem FK{P:SZ}{E:Nat->Option AFn}{l:List (AI×Nat)}{done:List (Nat×Nat×Nat)}(hY:YUp Y)(h:Pure (fL P E Y f args m n) m n v)(hk:∀r',(∀i,n<=i->Un (bit i) r'=0)->Wr P E Y K w0 (rm (pB P (fL P E Y) l (mj b kv k done e r0 w1 (.ok v m n r' 0)))) Q):Wr P E Y K w0 (rm (pB P (fL P E Y) l (mj b kv k done e r0 w1 (fL P E Y f args m n)))) Q:=by obtain⟨r',hx⟩:=h;rw[hx];have hu:=zK hY hx;exact hk _ λi hi=>nL (hu.2 i hi).1
theorem iS(n:Nat)(l:List AT):iW n (.tuple l.toArray)=l.all (rP n):=rfl
theorem jl(n:Nat)(l:List AT):rP n (.agg l.toArray)=l.all (jz n):=rfl
theorem iT(n:Nat)(k:IntKind)(z:Int):rP n (.int k z)=true:=rfl
def wX:AT:=fV (.slice none 0 0) (.map none)
theorem wH(hU:YUp Y)(hM:lL Y 164)(hC:me Y)(h:FamR S m n cv mv vs)(hI:Inv S vs)(hS:S<=65536)(h0:0<S){s t:ByteArray}{v:Vo}(hv:gK vs s=some v)(ht:nameOk t):Kp (fL PG EL Y 106 [fV cv mv,.string s,.string t] m n) m n λr m' n'=>(kW vs t=0/\∃cv' mv',r=.tuple #[fV cv' mv',.int .i64 0]/\FamR S m' n' cv' mv' (iG ⟨t,v.n,0,v.P⟩ vs))\/(kW vs t≠0/\r=.tuple #[wX,.int .i64 (kW vs t)]):=by
 have hvo:=hI.found hv;have hpl:=hvo.len;have hn2:=hvo.n2;refine gG (R:=λr m' n'=>(kW vs t=0/\∃cv' mv',r=.tuple #[fV cv' mv',.int .i64 0]/\FamR S m' n' cv' mv' (iG ⟨t,v.n,0,v.P⟩ vs))\/(kW vs t≠0/\r=.tuple #[wX,.int .i64 (kW vs t)])) e106 rfl λQ hQ=>?_;simp only[Jh,fV];have o1:=h.c.one;have o2:=h.m.one;simp(disch:=omega)only[W_,eu,to,U5,AS,By,BY,o1,o2,dW o1,dW o2];obtain⟨fr,t0,t1⟩:=iu (m:=m) (n:=n) (a:=.cells [cv,mv] 0 false true) (b:=.cells [.slice none 0 0,.map none] 0 false true);revert fr t0 t1;generalize (If (If m n (some (.cells [cv,mv] 0 false true))) (n+1) (some (.cells [.slice none 0 0,.map none] 0 false true)):FM)=M0;intro fr t0 t1;have H0:=h.frame (N':=n+2) (by omega) fr;obtain⟨tv,r,T,hl⟩:=pH H0.m hv;have ot:=T.one;have qt:=T.gU;have qa:=T.gO;simp(disch:=omega)only[W_,eu,to,U5,AS,By,BY,mE,hl,mY,ot,qt,qa,dW ot];have f1:∀b,b<n+2->(If M0 (n+2) (some (.cells [.int .i64 (v.n:Int),.int .i64 (v.r:Int),tv] 0 false true)):FM) b=M0 b:=λb hb=>gu;have t2:=eB M0 (n+2) (some (.cells [.int .i64 (v.n:Int),.int .i64 (v.r:Int),tv] 0 false true));have u0:=(f1 n (by omega)).trans t0;have u1:=(f1 (n+1) (by omega)).trans t1;revert f1 t2 u0 u1;generalize (If M0 (n+2) (some (.cells [.int .i64 (v.n:Int),.int .i64 (v.r:Int),tv] 0 false true)):FM)=M1;intro f1 t2 u0 u1;have H1:=H0.frame (N':=n+3) (by omega) f1;have T1:=T.frame (N':=n+3) (by omega) f1;refine fF (AP ht) λr1=>?_;simp(disch:=omega)only[W_,eu,to,U5,AS,By,BY,u0,o1,o2];refine fF (vZ (s:=t) o1 H1.m (by have:=hI.few;omega)) λr2=>?_;by_cases hz:kW vs t=0
 ·rw[show(if(gK vs t).isSome then 10 else if 32<=vs.length then 7 else 0:Int)=0 from hz];have hn:=pz hz;simp(disch:=omega)only[W_,eu,to,U5,AS,By,BY,u0,t2,o1,o2,ot,qt,qa,dW o1];refine mw hU (qA hC (v:=v) T1 (by omega)) λv3 M3 n3 r3 w3 ⟨k3,f3,g3,L,E3,V3,P3⟩ U3=>?_;have ox:=E3.one;have qx:=E3.gU;have C3:=H1.c.frame k3 f3;have q1:=C3.gU;have lv:lens L=v.P.length:=by rw[<-P3,kR]
  have ll:=vm V3;have La:=gE (g3 (n+3) (IN _)) (show n<n+3 by omega);have Lb:=gE (g3 (n+3) (IN _)) (show n+2<n+3 by omega);have qxa:=E3.gO;have q1a:=C3.gO;simp(disch:=omega)only[W_,eu,to,U5,AS,By,BY,ox,qx,o1,q1,La,Lb,qxa,q1a];refine mw hU (Fy C3 E3 (by rw[SC,ib];exact h0) (by rw[SC,ib];exact hS) (by rw[SC,ib];exact Bj V3 P3 hvo.sl) (by omega) (by omega) (CA hI)) λv4 M4 n4 r4 w4 ⟨k4,f4,g4,cv4,hv4,C4⟩ U4=>?_;subst hv4;have o4:=C4.one;have q4:=C4.gU;have z0:=(f4 n (by omega)).trans ((f3 n (by omega)).trans u0);have z1:=(f4 (n+1) (by omega)).trans ((f3 (n+1) (by omega)).trans u1);have z2:=(f4 (n+2) (by omega)).trans ((f3 (n+2) (by omega)).trans t2);have Lc:=gE (g4 (n+3) (by omega)) (show n<n+3 by omega);have Ld:=gE (g4 (n+3) (by omega)) (show n+2<n+3 by omega);have q4a:=C4.gO;have Ua:=U3 n4 k4;have Ub:=U4 n4 (IN _);simp(disch:=omega)only[W_,eu,to,U5,AS,By,BY,Ua,Ub,iS,jl,iT,q4a,o4,q4,z0,z1,z2,o1,o2,ot,dW o4,La,Lb,Lc,Ld];have C5:Cts (If (If M4 n4 (some (.cells [cv4] 0 false true))) (n+2) (some (.cells [.int .i64 (v.n:Int),.int .i64 0,tv] 0 false true))) (n4+1) cv4 (cnt S (iG ⟨t,v.n,0,v.P⟩ vs)):=by have hc4:chg 1 ((mF S (slv vs)).map Int.ofNat) (slo (prs L))=cnt S (iG ⟨t,v.n,0,v.P⟩ vs):=E' (by rw[P3];exact RP hn.1);rw[<-hc4];exact(C4.frame (N':=n4+1) (M':=If M4 n4 (some (.cells [cv4] 0 false true))) (by omega) λb hb=>gu).other ((en _ _ _ _ (by omega)).trans z2) (by simp) λb hb=>en _ _ _ _ hb
  have f5:∀b,b<n+2->(If (If M4 n4 (some (.cells [cv4] 0 false true))) (n+2) (some (.cells [.int .i64 (v.n:Int),.int .i64 0,tv] 0 false true)):FM) b=M0 b:=λb hb=>(en _ _ _ _ (by omega)).trans ((en _ _ _ _ (by omega)).trans ((f4 b (by omega)).trans ((f3 b (by omega)).trans (f1 b hb))));revert C5 f5;generalize (If (If M4 n4 (some (.cells [cv4] 0 false true))) (n+2) (some (.cells [.int .i64 (v.n:Int),.int .i64 0,tv] 0 false true)):FM)=M5;intro C5 f5;refine fI (sG hM (v:=⟨t,v.n,0,v.P⟩) o1 (H0.m.frame (N':=n4+1) (by omega) f5) C5 (T.frame (by omega) f5)) λv6 M6 n6 r6 w6 ⟨k6,f6,g6,mv',hv6,E6⟩=>?_;subst hv6;have o6:=E6.one;have q6:=E6.gU;have C6:=C5.frame k6 f6;have q7:=C6.gU;have y1:=(f6 (n+1) (by omega)).trans ((f5 (n+1) (by omega)).trans t1);simp(disch:=omega)only[W_,eu,to,U5,AS,By,BY,fV,o4,o6,q6,q7,y1,dW o4,dW o6];refine hQ _ _ _ _ _ (by omega) (λb hb=>gJ (by omega) ((f6 b (by omega)).trans ((f5 b (by omega)).trans (fr b hb)))) (by simp(disch:=omega)only[fB,eS,eR,and_self,g3,g4,g6]) rfl (.inl ⟨hz,cv4,mv',rfl,?_⟩);exact FamR.other (k:=n+1) ⟨C6,E6⟩ y1 (by simp) (by simp) λb hb=>en _ _ _ _ hb
 ·rw[show(if(gK vs t).isSome then 10 else if 32<=vs.length then 7 else 0:Int)=kW vs t from rfl];simp(disch:=omega)only[W_,eu,to,U5,AS,By,BY,u1,kc];exact hQ _ _ _ _ _ (by omega) (λb hb=>gJ (by omega) ((f1 b (by omega)).trans (fr b hb))) (by simp(disch:=omega)only[fB,eS,eR,and_self]) rfl (.inr ⟨hz,rfl⟩)
theorem Dn{v:Vo}:∀{A:List Vo},(∀a∈A,a.nm≠v.nm)->pU v.nm (A++v::B)=A++B
 |[],_=>by simp[pU]
 |a::A,h=>by rw[SK];unfold pU;rw[if_neg (h a (by simp)).symm,Dn λb hb=>h b (SQ _ hb)];rfl
theorem RO{v:Vo}{s:ByteArray}(hv:gK vs s=some v):(slv vs).Perm (slv (pU s vs)++slo v.P):=by obtain⟨A,B,rfl,rfl,hA⟩:=jj hv;rw[Dn hA,lV,nS,lV,List.append_assoc];exact List.Perm.append_left _ List.perm_append_comm
theorem Cz:∀c∈(mF S l).map Int.ofNat,(0:Int)<=c:=by intro c hc;obtain⟨k,_,rfl⟩:=Us.1 hc;exact Int.natCast_nonneg k
theorem Exs.HK{M:FM}{N:Nat}{L:List Ex}(h:Exs M N v L):∀k,N<=k->rP k v=true:=λk hk=>by
 rcases h with⟨rfl,rfl⟩|⟨b,_,rest,opn,wr,rfl,hb,_⟩
 ·rfl
 ·exact gI (show b<k by omega)
theorem uI(hU:YUp Y)(hY:jf Y)(hM:lL Y 164)(hC:me Y)(h:FamR S m n cv mv vs)(hI:Inv S vs)(hS:S<=65536)(h0:0<S){s:ByteArray}{v:Vo}(hv:gK vs s=some v):Kp (fL PG EL Y 108 [fV cv mv,.string s] m n) m n λr m' n'=>∃cv' mv' fv F,r=.tuple #[fV cv' mv',fv,.int .i64 0]/\FamR S m' n' cv' mv' (pU s vs)/\Exs m' n' fv F:=by
 have hvo:=hI.found hv;have hpl:=hvo.len;have hn2:=hvo.n2;have hperm:=RO hv;refine gG (R:=λr m' n'=>∃cv' mv' fv F,r=.tuple #[fV cv' mv',fv,.int .i64 0]/\FamR S m' n' cv' mv' (pU s vs)/\Exs m' n' fv F) e108 rfl λQ hQ=>?_;simp only[Jg,fV];have o1:=h.c.one;have o2:=h.m.one;simp(disch:=omega)only[W_,eu,to,U5,AS,By,BY,o1,o2,dW o1,dW o2];obtain⟨fr,t0,t1⟩:=iu (m:=m) (n:=n) (a:=.cells [cv,mv] 0 false true) (b:=.cells [.slice none 0 0,.map none] 0 false true);revert fr t0 t1;generalize (If (If m n (some (.cells [cv,mv] 0 false true))) (n+1) (some (.cells [.slice none 0 0,.map none] 0 false true)):FM)=M0;intro fr t0 t1;have H0:=h.frame (N':=n+2) (by omega) fr;obtain⟨tv,r,T,hl⟩:=pH H0.m hv;have ot:=T.one;have qt:=T.gU;have qa:=T.gO;simp(disch:=omega)only[W_,eu,to,U5,AS,By,BY,mE,hl,mY,ot,qt,qa,dW ot,t0,o1,o2,dW o1];have f1:∀b,b<n+2->(If M0 (n+2) (some (.cells [.int .i64 (v.n:Int),.int .i64 (v.r:Int),tv] 0 false true)):FM) b=M0 b:=λb hb=>gu;have t2:=eB M0 (n+2) (some (.cells [.int .i64 (v.n:Int),.int .i64 (v.r:Int),tv] 0 false true));have u0:=(f1 n (by omega)).trans t0;have u1:=(f1 (n+1) (by omega)).trans t1;revert f1 t2 u0 u1;generalize (If M0 (n+2) (some (.cells [.int .i64 (v.n:Int),.int .i64 (v.r:Int),tv] 0 false true)):FM)=M1;intro f1 t2 u0 u1;have H1:=H0.frame (N':=n+3) (by omega) f1;have T1:=T.frame (N':=n+3) (by omega) f1;refine mw hU (qA hC (v:=v) T1 (by omega)) λv3 M3 n3 r3 w3 ⟨k3,f3,g3,L,E3,V3,P3⟩ U3=>?_;have ox:=E3.one;have qx:=E3.gU;have C3:=H1.c.frame k3 f3;have q1:=C3.gU;have lv:lens L=v.P.length:=by rw[<-P3,kR]
 have ll:=vm V3;have La:=gE (g3 (n+3) (IN _)) (show n<n+3 by omega);have Lb:=gE (g3 (n+3) (IN _)) (show n+2<n+3 by omega);have qxa:=E3.gO;have q1a:=C3.gO;have hcc:chg (-1) ((mF S (slv vs)).map Int.ofNat) (sL L)=cnt S (pU s vs):=zG (by rw[show sL L=slo v.P from congrArg slo P3];exact hperm);simp(disch:=omega)only[W_,eu,to,U5,AS,By,BY,ox,qx,o1,q1,La,Lb,qxa,q1a];refine mw hU (vM hY C3 E3 (by rw[SC,ib];exact h0) (by rw[SC,ib];exact hS) (by rw[SC,ib];exact Bj V3 P3 hvo.sl) (by omega) (by omega) (CA hI) (by rw[show sL L=slo v.P from congrArg slo P3];exact hvo.nd) (by rw[hcc];exact Cz)) λv4 M4 n4 r4 w4 ⟨k4,f4,g4,cv4,fv,F,hv4,C4,F4⟩ U4=>?_;subst hv4;rw[hcc]at C4;have o4:=C4.one;have q4:=C4.gU;have of4:=F4.one;have qf4:=F4.gU;have z0:=(f4 n (by omega)).trans ((f3 n (by omega)).trans u0);have z1:=(f4 (n+1) (by omega)).trans ((f3 (n+1) (by omega)).trans u1);have z2:=(f4 (n+2) (by omega)).trans ((f3 (n+2) (by omega)).trans t2);have Lc:=gE (g4 (n+3) (by omega)) (show n<n+3 by omega);have Ld:=gE (g4 (n+3) (by omega)) (show n+2<n+3 by omega);have q4a:=C4.gO;have qf4a:=F4.gO;have Ua:=U3 n4 k4;have Ub:=U4 n4 (IN _);have qf41:=F4.HK;simp(disch:=omega)only[W_,eu,to,U5,AS,By,BY,qf41,Ua,Ub,iS,jl,iT,q4a,o4,q4,of4,qf4,qf4a,z0,z1,z2,o1,o2,ot,dW o4,La,Lb,Lc,Ld];have t5:=eB M4 n4 (some (.cells [cv4] 0 false true));have f5:∀b,b<n4->(If M4 n4 (some (.cells [cv4] 0 false true)):FM) b=M4 b:=λb hb=>gu;have C5:=C4.frame (N':=n4+1) (by omega) f5;have F5:=F4.frame (N':=n4+1) (by omega) f5;revert t5 f5 C5 F5;generalize (If M4 n4 (some (.cells [cv4] 0 false true)):FM)=M5;intro t5 f5 C5 F5;have g5:∀b,b<n->M5 b=m b:=λb hb=>(f5 b (by omega)).trans ((f4 b (by omega)).trans ((f3 b (by omega)).trans ((f1 b (by omega)).trans (fr b hb))));rcases h.m with⟨_,hnil⟩|⟨b,es,rfl,hb,hmb,hvs⟩
 ·exfalso;rw[hnil]at hv;cases hv
 have hcl:=hM.2 M5 (n4+1) b _ (by omega) ((g5 b hb).trans hmb);rw[<-kU (P:=PG) (E:=EL) (Y:=Y) aem]at hcl;refine fI hcl λv6 M6 n6 r6 w6 ⟨k6,f6,g6,b',hv6,hb1,hb2,hm6⟩=>?_;subst hv6;have hu:=del_G (mi:=es) GS hb2 hm6 s;have hu2:lu PG (.del 9) [.map (some b'),.string s] M6 n6=_:=hu;have ne1:b'≠n+1:=by omega
 have ne4:b'≠n4:=by omega
 have hlt:b'<n6:=hb2;have y4:=(f6 n4 (by omega)).trans t5;have y1:=(f6 (n+1) (by omega)).trans ((f5 (n+1) (by omega)).trans z1);simp(disch:=omega)only[W_,eu,to,U5,AS,By,BY,mE,hu2,y1,y4,o4,q4,of4,qf4,dW o4,ne1,ne4,hlt,mc,belowF_map,Cd];have ff:∀x,∀b,b<n->(If (If M6 b' (some (.map (GS.C (An s es))))) (n+1) x:FM) b=m b:=λx b hb=>(en _ _ _ _ (by omega)).trans ((en _ _ _ _ (by omega)).trans ((f6 b (by omega)).trans (g5 b hb)));have fm:∀b,b<n4+1->(If M6 b' (some (.map (GS.C (An s es)))):FM) b=M5 b:=λb hb=>gJ (by omega) (f6 b hb);refine hQ _ _ _ _ _ (by omega) (ff _) (by simp(disch:=omega)only[fB,eS,eR,and_self,g3,g4,g6]) rfl ⟨cv4,_,fv,F,rfl,⟨?_,.inr ⟨b',_,rfl,by omega,(en _ _ _ _ (by omega)).trans (eB _ _ _),(hvs.frame (by omega) (ff _)).del s⟩⟩,?_⟩
 ·exact(C5.frame (N':=n6) (by omega) fm).other ((fm (n+1) (by omega)).trans ((f5 (n+1) (by omega)).trans z1)) (by simp) λb hb=>en _ _ _ _ hb
 ·exact(F5.frame (N':=n6) (by omega) fm).rn ((fm (n+1) (by omega)).trans ((f5 (n+1) (by omega)).trans z1)) (by simp) (λb hb=>en _ _ _ _ hb) (IN _)
theorem nR{v w:Vo}(hw:v.nm=w.nm):∀{A:List Vo},(∀a∈A,a.nm≠w.nm)->iG w (A++v::B)=A++w::B
 |[],_=>by simp[iG,hw]
 |a::A,h=>by rw[SK];unfold iG;rw[if_neg (h a (by simp)).symm,nR hw λb hb=>h b (SQ _ hb)];rfl
theorem H3{s:ByteArray}{v w:Vo}(hv:gK vs s=some v)(hw:w.nm=s):∃A B,vs=A++v::B/\iG w vs=A++w::B:=by obtain⟨A,B,rfl,h1,hA⟩:=jj hv;exact⟨A,B,rfl,nR (h1.trans hw.symm) λa ha=>by rw[hw];exact hA a ha⟩
theorem BM{s:ByteArray}{v w:Vo}(hv:gK vs s=some v)(hw:w.nm=s)(z:Nat):(slv (iG w vs)).count z+(slo v.P).count z=(slv vs).count z+(slo w.P).count z:=by obtain⟨A,B,h1,h2⟩:=H3 hv hw;rw[h2,h1];simp only[lV,nS,TH];omega
theorem I5{x:Ex}(h:SP P)(z:Nat):(slo (asg x P)).count z+(slo (kY x.a (x.a+x.n) P)).count z=(slo P).count z+(slo x.pr).count z:=by have h3:=h.aen (a:=x.a) (e:=x.a+x.n) (by omega);have:=congrArg (λQ=>(slo Q).count z) h3;simp only[jw,TH]at this;rw[asg];simp only[jw,TH];omega
theorem aa'{a k:Nat}(h:SP P)(z:Nat):(slo (jK a P++iC (a+k) P)).count z+(slo (kY a (a+k) P)).count z=(slo P).count z:=by have h3:=h.aen (a:=a) (e:=a+k) (by omega);have:=congrArg (λQ=>(slo Q).count z) h3;simp only[jw,TH]at this;simp only[jw,TH];omega
theorem DS{a b:List Nat}(h:∀z,a.count z=b.count z):a.Perm b:=List.perm_iff_count.2 h
theorem AR{e:Nat}(h:(slo P).Nodup):(slo (kY a e P)).Nodup:=by refine List.Nodup.sublist ?_ h;exact List.Sublist.map _ (U0.trans U0)
theorem xt(a e:Nat)(P:List Pr):(kY a e P).length<=P.length:=Tz (Um _ _) (Um _ _)
theorem ye{w:Vo}(hA:∀a∈A,a.nm≠w.nm):gK (A++w::B) w.nm=some w:=by unfold gK;rw[VZ,List.find?_eq_none.2 (λa ha=>by simpa using hA a ha),Option.none_or,List.find?_cons_of_pos (by simp)]
theorem FH{w w':Vo}{t:ByteArray}(h:w.nm≠t)(h':w'.nm≠t):gK (A++w::B) t=gK (A++w'::B) t:=by unfold gK;rw[VZ,VZ,Vz (by simpa using h),Vz (by simpa using h')]
theorem sH{s:ByteArray}{v w:Vo}(hv:gK vs s=some v)(hw:w.nm=s):gK (iG w vs) s=some w:=by obtain⟨A,B,rfl,h1,hA⟩:=jj hv;rw[nR (h1.trans hw.symm) λa ha=>by rw[hw];exact hA a ha,<-hw];exact ye λa ha=>by rw[hw];exact hA a ha
theorem Dm{s t:ByteArray}{v w:Vo}(hv:gK vs s=some v)(hw:w.nm=s)(ht:t≠s):gK (iG w vs) t=gK vs t:=by obtain⟨A,B,rfl,h1,hA⟩:=jj hv;rw[nR (h1.trans hw.symm) λa ha=>by rw[hw];exact hA a ha];exact FH (by rw[hw];exact ht.symm) (by rw[h1];exact ht.symm)
theorem Jv{w:Vo}{t:ByteArray}(hw:w.nm∉vs.map Vo.nm)(ht:t≠w.nm):gK (iG w vs) t=gK vs t:=by rw[nQ hw];unfold gK;rw[VZ,Vz (by simpa using ht.symm),List.find?_nil,Option.or_none]
theorem FI{w:Vo}(hw:w.nm∉vs.map Vo.nm):gK (iG w vs) w.nm=some w:=by rw[nQ hw];exact ye λa ha e=>hw (Us.2 ⟨a,ha,e⟩)
theorem Jw{s t:ByteArray}(ht:t≠s):gK (pU s vs) t=gK vs t:=by
 induction vs with
 |nil=>rfl
 |cons u vs ih=>
  unfold pU;by_cases h:s=u.nm
  ·rw[if_pos h];unfold gK;rw[Vz (by rw[<-h];simpa using ht.symm)]
  ·rw[if_neg h];unfold gK at ih ⊢;rw[List.find?_cons,List.find?_cons,ih]
theorem qV(s:ByteArray):∀vs:List Vo,(pU s vs).Sublist vs
 |[]=>VV _
 |u::vs=>by
  unfold pU;split
  ·exact List.sublist_cons_self _ _
  ·exact(qV s vs).cons_cons _
def qO(s:ByteArray)(vs vs':List Vo):Prop:=∀v,gK vs s=some v->∃v',gK vs' s=some v'/\v'.n=v.n/\v'.r=v.r
theorem qO.set{s:ByteArray}{v w:Vo}(hv:gK vs s=some v)(hw:w.nm=s)(hn:w.n=v.n)(hr:w.r=v.r)(t:ByteArray):qO t vs (iG w vs):=λu hu=>by
 by_cases h:t=s
 ·subst h;rw[hv]at hu;injection hu with hu
  subst hu;exact⟨w,sH hv hw,hn,hr⟩
 ·exact⟨u,(Dm hv hw h).trans hu,rfl,rfl⟩
theorem qO.new{w:Vo}(hw:w.nm∉vs.map Vo.nm)(t:ByteArray):qO t vs (iG w vs):=λu hu=>by refine⟨u,(Jv hw λe=>?_).trans hu,rfl,rfl⟩;obtain⟨A,B,rfl,h1,_⟩:=jj hu;exact hw (by simp[<-e,<-h1])
theorem qO.del{s t:ByteArray}(h:t≠s):qO t vs (pU s vs):=λu hu=>⟨u,(Jw h).trans hu,rfl,rfl⟩
theorem Inv.upd(h:Inv S vs){s:ByteArray}{v w:Vo}(hv:gK vs s=some v)(hw:w.nm=s)(hok:w.Ok S):Inv S (iG w vs):=by
 obtain⟨A,B,rfl,h1,hA⟩:=jj hv;rw[nR (h1.trans hw.symm) λa ha=>by rw[hw];exact hA a ha];refine⟨λu hu=>?_,?_,?_,λu hu=>?_⟩
 ·rcases Tw.1 hu with hu|hu
  ·exact h.vok u (Uf _ hu)
  ·rcases TG.1 hu with rfl|hu
   ·exact hok
   ·exact h.vok u (Vd _ (SQ _ hu))
 ·have:=h.nm;rw[Uu,Uc]at this ⊢;rw[hw,<-h1];exact this
 ·have:=h.few;rw[IT,List.length_cons]at this ⊢;exact this
 ·rcases Tw.1 hu with hu|hu
  ·exact h.ns u (Uf _ hu)
  ·rcases TG.1 hu with rfl|hu
   ·rw[hw,<-h1];exact h.ns v (Vd _ (List.mem_cons_self ..))
   ·exact h.ns u (Vd _ (SQ _ hu))
theorem Inv.add(h:Inv S vs){w:Vo}(hw:kW vs w.nm=0)(hok:w.Ok S)(h16:w.nm.size<=16):Inv S (iG w vs):=by
 have hn:=pz hw;rw[nQ hn.1];refine⟨λu hu=>?_,?_,by rw[IT,List.length_singleton];omega,λu hu=>?_⟩
 ·rcases Tw.1 hu with hu|hu
  ·exact h.vok u hu
  ·obtain rfl:=SX.1 hu;exact hok
 ·rw[Uu,Uc,List.map_nil];refine T'.2 ⟨h.nm,List.nodup_cons.2 ⟨by simp,List.nodup_nil⟩,λa ha b hb e=>?_⟩;obtain rfl:=SX.1 hb;exact hn.1 (e▸ha)
 ·rcases Tw.1 hu with hu|hu
  ·exact h.ns u hu
  ·obtain rfl:=SX.1 hu;exact h16
theorem Inv.rK(h:Inv S vs){s:ByteArray}(hs:kW vs s=0){k r:Nat}(h1:1<=k)(h2:k<=65536)(h3:r<=k)(h16:s.size<=16):Inv S (iG ⟨s,k,r,[]⟩ vs):=h.add (w:=⟨s,k,r,[]⟩) hs ⟨h1,h2,h3,.nil,λp hp=>(by cases hp),λp hp=>(by cases hp),List.nodup_nil⟩ h16
theorem Inv.clone(h:Inv S vs){s t:ByteArray}{v:Vo}(hv:gK vs s=some v)(ht:kW vs t=0)(h16:t.size<=16):Inv S (iG ⟨t,v.n,0,v.P⟩ vs):=by have:=h.found hv;exact h.add (w:=⟨t,v.n,0,v.P⟩) ht ⟨this.n1,this.n2,Tq _,this.sp,this.bl,this.sl,this.nd⟩ h16
theorem Inv.del(h:Inv S vs)(s:ByteArray):Inv S (pU s vs):=⟨λu hu=>h.vok u ((qV s vs).subset hu),h.nm.sublist ((qV s vs).map _),Tz (qV s vs).length_le h.few,λu hu=>h.ns u ((qV s vs).subset hu)⟩
theorem Inv.Aw(h:Inv S vs){s:ByteArray}{v:Vo}(hv:gK vs s=some v)(a k:Nat):Inv S (iG ⟨s,v.n,v.r,jK a v.P++iC (a+k) v.P⟩ vs):=by
 have ho:=h.found hv;have hc:=ho.sp.aen (a:=a) (e:=a+k) (by omega)
 have hs:(jK a v.P++iC (a+k) v.P).Sublist v.P:=by
  conv=>rhs;rw[hc]
  exact(VV _).append (List.sublist_append_right _ _)
 exact h.upd hv (w:=⟨s,v.n,v.r,jK a v.P++iC (a+k) v.P⟩) rfl ⟨ho.n1,ho.n2,ho.r,ho.sp.sub hs,λp hp=>ho.bl p (hs.subset hp),λp hp=>ho.sl p (hs.subset hp),ho.nd.sublist (hs.map _)⟩
theorem vv{s:ByteArray}{v:Vo}(hv:gK vs s=some v){z:Nat}(hz:z∈slo v.P):1<=(slv vs).count z:=by obtain⟨A,B,rfl,_,_⟩:=jj hv;obtain⟨p,hp,rfl⟩:=j7.1 hz;exact mC (by simp) hp
structure Fre(S:Nat)(vs:List Vo)(v:Vo)(xs:List Ex):Prop where
 ok:∀x∈xs,x.ok/\x.a+x.n<=v.n/\x.s+x.n<=S
 nd:(sL xs).Nodup
 fr:∀z∈sL xs,(slv vs).count z=0
theorem Inv.assign(h:Inv S vs){s:ByteArray}{v:Vo}(hv:gK vs s=some v){x:Ex}(hx:x.a+x.n<=v.n)(hs:x.s+x.n<=S)(hf:∀z∈slo x.pr,(slv vs).count z=0):Inv S (iG ⟨s,v.n,v.r,asg x v.P⟩ vs):=by
 have ho:=h.found hv;refine h.upd hv (w:=⟨s,v.n,v.r,asg x v.P⟩) rfl ⟨ho.n1,ho.n2,ho.r,qE ho.sp,λp hp=>?_,λp hp=>?_,?_⟩
 ·rcases Cj.1 hp with hp|⟨hp,_⟩
  ·have:=Ex.iH.1 hp;show p.1<v.n;omega
  ·exact ho.bl p hp
 ·rcases Cj.1 hp with hp|⟨hp,_⟩
  ·have:=Ex.iH.1 hp;omega
  ·exact ho.sl p hp
 ·refine(uh (Fv (x:=x) ho.sp)).nodup_iff.2 ?_;rw[jw];refine T'.2 ⟨by rw[iz];exact List.nodup_range',ho.nd.sublist (U0.map _),λa ha b hb e=>?_⟩;subst e;have h1:=hf a ha;have h2:=vv hv ((U0.map Prod.snd).subset hb);omega
theorem Fre.step(h:Inv S vs){s:ByteArray}{v:Vo}(hv:gK vs s=some v){x:Ex}(hF:Fre S vs v (x::xs)):Fre S (iG ⟨s,v.n,v.r,asg x v.P⟩ vs) ⟨s,v.n,v.r,asg x v.P⟩ xs:=by
 have ho:=h.found hv;have hnd:=hF.nd;rw[iM]at hnd;refine⟨λy hy=>hF.ok y (SQ _ hy),(T'.1 hnd).2.1,λz hz=>?_⟩;have h1:=hF.fr z (by rw[iM];exact Vd _ hz);have h2:=BM (w:=⟨s,v.n,v.r,asg x v.P⟩) hv rfl z;have h3:=I5 (x:=x) ho.sp z;have h4:(slo x.pr).count z=0:=Uk.2 λhh=>wu hnd hh hz;have h5:(slo v.P).count z=0:=Uk.2 λhh=>by have:=vv hv hh;omega
 dsimp only at h2;omega
theorem vk{w w':Vo}(h:w'.nm=w.nm):∀vs:List Vo,iG w' (iG w vs)=iG w' vs
 |[]=>by simp[iG,h]
 |u::vs=>by
  have e1:∀(x u:Vo) (l:List Vo),iG x (u::l)=if x.nm=u.nm then x::l else u::iG x l:=λ_ _ _=>rfl
  rw[e1 w,e1 w' u];by_cases e:w.nm=u.nm
  ·rw[if_pos e,if_pos (h.trans e),e1,if_pos h]
  ·rw[if_neg e,if_neg (by rw[h];exact e),e1,if_neg (by rw[h];exact e),vk h vs]
theorem LC(h:Inv S vs){s:ByteArray}{v:Vo}(hv:gK vs s=some v)(hV:VL xs)(hF:Fre S vs v xs):Turn S vs (iG ⟨s,v.n,v.r,nN xs v.P⟩ vs) v ⟨s,v.n,v.r,nN xs v.P⟩ (v.P.filter λp=>cov xs p.1) (v.P.filter λp=>!cov xs p.1) (prs xs):=by have ho:=h.found hv;refine⟨H3 hv rfl,Ol xs v.P,vS hV ho.sp,ho.nd,hF.nd,λp hp=>?_,λp hp=>hF.fr _ (j7.2 ⟨p,hp,rfl⟩),rfl⟩;obtain⟨x,hx,hp⟩:=List.mem_flatMap.1 hp;have:=(hF.ok x hx).2.2;have:=Ex.iH.1 hp;omega
theorem yg(hY:jf Y)(hM:lL Y 164)(h:FamR S m n cv mv vs)(hI:Inv S vs)(hS:S<=65536)(h0:0<S){s:ByteArray}{v:Vo}(hv:gK vs s=some v)(ha:a+k<=v.n):Kp (fL PG EL Y 103 [fV cv mv,.string s,.int .i64 (a:Int),.int .i64 (k:Int)] m n) m n λr m' n'=>∃cv' mv' fv F,r=.tuple #[fV cv' mv',fv,.int .i64 0]/\FamR S m' n' cv' mv' (iG ⟨s,v.n,v.r,jK a v.P++iC (a+k) v.P⟩ vs)/\Exs m' n' fv F:=by
 have hvo:=hI.found hv;have hpl:=hvo.len;have hn2:=hvo.n2;refine gG (R:=λr m' n'=>∃cv' mv' fv F,r=.tuple #[fV cv' mv',fv,.int .i64 0]/\FamR S m' n' cv' mv' (iG ⟨s,v.n,v.r,jK a v.P++iC (a+k) v.P⟩ vs)/\Exs m' n' fv F) e103 rfl λQ hQ=>?_;simp only[Ji,fV];have o1:=h.c.one;have o2:=h.m.one;simp(disch:=omega)only[W_,eu,to,o1,o2,dW o1,dW o2];obtain⟨fr,t0,t1⟩:=iu (m:=m) (n:=n) (a:=.cells [cv,mv] 0 false true) (b:=.cells [.slice none 0 0,.map none] 0 false true);revert fr t0 t1;generalize (If (If m n (some (.cells [cv,mv] 0 false true))) (n+1) (some (.cells [.slice none 0 0,.map none] 0 false true)):FM)=M0;intro fr t0 t1;have H0:=h.frame (N':=n+2) (by omega) fr;refine fI (pL H0 hv hn2 (a:=(a:Int)) (k:=(k:Int)) (by omega) (by omega)) λv1 M1 n1 r1 w1 ⟨k1,f1,g1,tv,hv1,T⟩=>?_;subst hv1;have ot:=T.one;have qt:=T.gU;have qa:=T.gO;simp(disch:=omega)only[W_,eu,to,mY,ot,qt,qa,dW ot];have fa:∀b,b<n1->(If M1 n1 (some (.cells [.int .i64 (v.n:Int),.int .i64 (v.r:Int),tv] 0 false true)):FM) b=M1 b:=λb hb=>gu;have ta:=eB M1 n1 (some (.cells [.int .i64 (v.n:Int),.int .i64 (v.r:Int),tv] 0 false true));revert fa ta;generalize (If M1 n1 (some (.cells [.int .i64 (v.n:Int),.int .i64 (v.r:Int),tv] 0 false true)):FM)=M2;intro fa ta;refine fI (EE (T.frame (N':=n1+1) (by omega) fa) (a:=a) (k:=k) (by omega)) λv3 M3 n3 r3 w3 ⟨k3,f3,g3,tv3,lv,hv3,T3,L3⟩=>?_;subst hv3;have ot3:=T3.one;have qt3:=T3.gU;have ol:=L3.one;have u1:=(f3 n1 (by omega)).trans ta;have u0:=(f3 n (by omega)).trans ((fa n (by omega)).trans ((f1 n (by omega)).trans t0));have u2:=(f3 (n+1) (by omega)).trans ((fa (n+1) (by omega)).trans ((f1 (n+1) (by omega)).trans t1));simp(disch:=omega)only[W_,eu,to,ot3,qt3,ol,u0,u1,dW ot3,o1,dW o1];have f4:∀b,b<n+2->(If (If M3 n3 (some (.cells [tv3] 0 false true))) n1 (some (.cells [.int .i64 (v.n:Int),.int .i64 (v.r:Int),tv3] 0 false true)):FM) b=M0 b:=λb hb=>(en _ _ _ _ (by omega)).trans ((en _ _ _ _ (by omega)).trans ((f3 b (by omega)).trans ((fa b (by omega)).trans (f1 b (by omega)))));have t4:=eB (If M3 n3 (some (.cells [tv3] 0 false true))) n1 (some (.cells [.int .i64 (v.n:Int),.int .i64 (v.r:Int),tv3] 0 false true));have T4:TP (If (If M3 n3 (some (.cells [tv3] 0 false true))) n1 (some (.cells [.int .i64 (v.n:Int),.int .i64 (v.r:Int),tv3] 0 false true))) (n3+1) tv3 (jK a v.P++iC (a+k) v.P):=(T3.frame (N':=n3+1) (M':=If M3 n3 (some (.cells [tv3] 0 false true))) (by omega) λb hb=>gu).other ((en _ _ _ _ (by omega)).trans u1) (by simp) λb hb=>en _ _ _ _ hb;have L4:ExP (If (If M3 n3 (some (.cells [tv3] 0 false true))) n1 (some (.cells [.int .i64 (v.n:Int),.int .i64 (v.r:Int),tv3] 0 false true))) (n3+1) lv (kY a (a+k) v.P):=(L3.frame (N':=n3+1) (M':=If M3 n3 (some (.cells [tv3] 0 false true))) (by omega) λb hb=>gu).other ((en _ _ _ _ (by omega)).trans u1) (by simp) λb hb=>en _ _ _ _ hb;revert f4 t4 T4 L4;generalize (If (If M3 n3 (some (.cells [tv3] 0 false true))) n1 (some (.cells [.int .i64 (v.n:Int),.int .i64 (v.r:Int),tv3] 0 false true)):FM)=M4;intro f4 t4 T4 L4;have C4:=H0.c.frame (N':=n3+1) (by omega) f4;obtain⟨L,E4,V4,P4⟩:=L4;have lv4:lens L=(kY a (a+k) v.P).length:=by rw[<-P4,kR]
 have ll:=vm V4;have ml:=xt a (a+k) v.P;have sLe:sL L=slo (kY a (a+k) v.P):=congrArg slo P4
 have hcc:chg (-1) ((mF S (slv vs)).map Int.ofNat) (sL L)=cnt S (iG ⟨s,v.n,v.r,jK a v.P++iC (a+k) v.P⟩ vs):=zG (DS λz=>by
  rw[sLe,TH];have h1:=BM (w:=⟨s,v.n,v.r,jK a v.P++iC (a+k) v.P⟩) hv rfl z;have h2:=aa' (a:=a) (k:=k) hvo.sp z;dsimp only at h1
  omega)
 refine fI (vM hY C4 E4 (by rw[SC,ib];exact h0) (by rw[SC,ib];exact hS) (by rw[SC,ib];exact Bj V4 P4 λp hp=>hvo.sl p (lQ.1 hp).1) (by omega) (by omega) (CA hI) (by rw[sLe];exact AR hvo.nd) (by rw[hcc];exact Cz)) λv5 M5 n5 r5 w5 ⟨k5,f5,g5,cv5,fv,F,hv5,C5,F5⟩=>?_;subst hv5;rw[hcc]at C5;have o5:=C5.one;have q5:=C5.gU;have of5:=F5.one;have y0:=(f5 n (by omega)).trans ((f4 n (by omega)).trans t0);have y1:=(f5 (n+1) (by omega)).trans ((f4 (n+1) (by omega)).trans t1);have y4:=(f5 n1 (by omega)).trans t4;simp(disch:=omega)only[W_,eu,to,o5,q5,of5,y0,y4,o1,o2,ot3,dW o5];have f6:∀b,b<n5->(If M5 n5 (some (.cells [cv5] 0 false true)):FM) b=M5 b:=λb hb=>gu;have C6:=C5.frame (N':=n5+1) (by omega) f6;have F6:=F5.frame (N':=n5+1) (by omega) f6;have fz:∀b,b<n+2->(If M5 n5 (some (.cells [cv5] 0 false true)):FM) b=M0 b:=λb hb=>(f6 b (by omega)).trans ((f5 b (by omega)).trans (f4 b hb));have T6:=(T4.frame (N':=n5) (by omega) f5).frame (N':=n5+1) (by omega) f6;have z1:=(f6 (n+1) (by omega)).trans y1;revert f6 C6 F6 fz T6 z1;generalize (If M5 n5 (some (.cells [cv5] 0 false true)):FM)=M6;intro f6 C6 F6 fz T6 z1;refine fI (sG hM (v:=⟨s,v.n,v.r,jK a v.P++iC (a+k) v.P⟩) o1 (H0.m.frame (N':=n5+1) (by omega) fz) C6 T6) λv7 M7 n7 r7 w7 ⟨k7,f7,g7,mv',hv7,E7⟩=>?_;subst hv7;have o7:=E7.one;have q7:=E7.gU;have C7:=C6.frame k7 f7;have q8:=C7.gU;have F7:=F6.frame k7 f7;have x1:=(f7 (n+1) (by omega)).trans z1;simp(disch:=omega)only[W_,eu,to,fV,o5,o7,q7,q8,x1,of5,dW o5,dW o7];refine hQ _ _ _ _ _ (by omega) (λb hb=>gJ (by omega) ((f7 b (by omega)).trans ((fz b (by omega)).trans (fr b hb)))) (by simp(disch:=omega)only[fB,eS,eR,and_self,g1,g3,g5,g7]) rfl ⟨cv5,mv',fv,F,rfl,FamR.other (k:=n+1) ⟨C7,E7⟩ x1 (by simp) (by simp) λb hb=>en _ _ _ _ hb,F7.rn x1 (by simp) (λb hb=>en _ _ _ _ hb) (IN _)⟩
theorem jP{m:FM}{n:Nat}{a b c:Blk}:(∀k,k<n->(If (If (If m n (some a)) (n+1) (some b)) (n+2) (some c):FM) k=m k)/\(If (If (If m n (some a)) (n+1) (some b)) (n+2) (some c):FM) n=some a/\(If (If (If m n (some a)) (n+1) (some b)) (n+2) (some c):FM) (n+1)=some b/\(If (If (If m n (some a)) (n+1) (some b)) (n+2) (some c):FM) (n+2)=some c:=⟨λk hk=>by rw[en _ _ _ _ (by omega),en _ _ _ _ (by omega),en _ _ _ _ (by omega)],by rw[en _ _ _ _ (by omega),en _ _ _ _ (by omega),eB],by rw[en _ _ _ _ (by omega),eB],eB _ _ _⟩
theorem abr(h:l.length<=100000000):∀c∈(mF S l).map Int.ofNat,(-100000000:Int)<=c/\c<=100000000:=by intro c hc;obtain⟨k,hk,rfl⟩:=Us.1 hc;obtain⟨s,_,rfl⟩:=Us.1 hk;have h1:=List.count_le_length (a:=s) (l:=l);exact⟨by show(-100000000:Int)<=((l.count s:Nat):Int);omega,by show((l.count s:Nat):Int)<=100000000;omega⟩
theorem Fu(hY:jf Y)(hM:lL Y 164)(h:FamR S m n cv mv vs)(hI:Inv S vs)(hS:S<=65536)(h0:0<S){s:ByteArray}{v:Vo}(hv:gK vs s=some v){x:Ex}(hx:x.ok)(ha:x.a+x.n<=v.n)(hxs:x.s+x.n<=S):Kp (fL PG EL Y 100 [fV cv mv,.string s,.agg x.cs.toArray] m n) m n λr m' n'=>∃cv' mv' fv F,r=.tuple #[fV cv' mv',fv,.int .i64 0]/\FamR S m' n' cv' mv' (iG ⟨s,v.n,v.r,asg x v.P⟩ vs)/\Exs m' n' fv F:=by
 have hvo:=hI.found hv;have hpl:=hvo.len;have hn2:=hvo.n2;have hx2:=hx;unfold Ex.ok at hx2;refine gG (R:=λr m' n'=>∃cv' mv' fv F,r=.tuple #[fV cv' mv',fv,.int .i64 0]/\FamR S m' n' cv' mv' (iG ⟨s,v.n,v.r,asg x v.P⟩ vs)/\Exs m' n' fv F) e100 rfl λQ hQ=>?_;simp only[Q7,fV,Ex.cs];have o1:=h.c.one;have o2:=h.m.one;simp(disch:=omega)only[W_,eu,to,IS,o1,o2,dW o1,dW o2];obtain⟨fr,t0,t1,t2⟩:=jP (m:=m) (n:=n) (a:=.cells [cv,mv] 0 false true) (b:=.cells [.int .i64 (x.a:Int),.int .i64 (x.n:Int),.int .i64 (x.s:Int)] 0 false true) (c:=.cells [.slice none 0 0,.map none] 0 false true);revert fr t0 t1 t2;generalize (If (If (If m n (some (.cells [cv,mv] 0 false true))) (n+1) (some (.cells [.int .i64 (x.a:Int),.int .i64 (x.n:Int),.int .i64 (x.s:Int)] 0 false true))) (n+2) (some (.cells [.slice none 0 0,.map none] 0 false true)):FM)=M0;intro fr t0 t1 t2;have H0:=h.frame (N':=n+3) (by omega) fr;refine fI (pL H0 hv hn2 (a:=(x.a:Int)) (k:=(x.n:Int)) (by omega) (by omega)) λv1 M1 n1 r1 w1 ⟨k1,f1,g1,tv,hv1,T⟩=>?_;subst hv1;have ot:=T.one;have qt:=T.gU;have qa:=T.gO;have e0:=(f1 n (by omega)).trans t0;have e1:=(f1 (n+1) (by omega)).trans t1;have e2:=(f1 (n+2) (by omega)).trans t2;simp(disch:=omega)only[W_,eu,to,IS,mY,ot,qt,qa,dW ot,e0,e1,o1,dW o1];have f2:∀b,b<n1->(If (If M1 n1 (some (.cells [.int .i64 (v.n:Int),.int .i64 (v.r:Int),tv] 0 false true))) (n1+1) (some (.cells [.int .i64 (x.a:Int),.int .i64 (x.n:Int),.int .i64 (x.s:Int)] 3 false true)):FM) b=M1 b:=λb hb=>(en _ _ _ _ (by omega)).trans (en _ _ _ _ (by omega));have a1:(If (If M1 n1 (some (.cells [.int .i64 (v.n:Int),.int .i64 (v.r:Int),tv] 0 false true))) (n1+1) (some (.cells [.int .i64 (x.a:Int),.int .i64 (x.n:Int),.int .i64 (x.s:Int)] 3 false true)):FM) n1=_:=(en _ _ _ _ (by omega)).trans (eB M1 n1 (some (.cells [.int .i64 (v.n:Int),.int .i64 (v.r:Int),tv] 0 false true)));have a2:=eB (If M1 n1 (some (.cells [.int .i64 (v.n:Int),.int .i64 (v.r:Int),tv] 0 false true))) (n1+1) (some (.cells [.int .i64 (x.a:Int),.int .i64 (x.n:Int),.int .i64 (x.s:Int)] 3 false true));revert f2 a1 a2;generalize (If (If M1 n1 (some (.cells [.int .i64 (v.n:Int),.int .i64 (v.r:Int),tv] 0 false true))) (n1+1) (some (.cells [.int .i64 (x.a:Int),.int .i64 (x.n:Int),.int .i64 (x.s:Int)] 3 false true)):FM)=M2;intro f2 a1 a2;have X2:Exs M2 (n1+2) (.slice (some ⟨n1+1,0,none⟩) 1 1) [x]:=.inr ⟨n1+1,1,[],_,_,rfl,by omega,a2⟩;have C2:=(H0.c.frame k1 f1).frame (N':=n1+2) (by omega) f2;have px:slo (prs [x])=slo x.pr:=by rw[jq,sQ,List.append_nil]
 have hc3:chg 1 ((mF S (slv vs)).map Int.ofNat) (slo (prs [x]))=(mF S (slv vs++slo x.pr)).map Int.ofNat:=E' (by rw[px]);refine fI (Fy C2 X2 (by rw[SC,ib];exact h0) (by rw[SC,ib];exact hS) (by rw[SC,ib];intro y hy;obtain rfl:=SX.1 hy;exact⟨hx2.1,hxs⟩) (by rw[gH,jC];omega) (by simp) (CA hI)) λv3 M3 n3 r3 w3 ⟨k3,f3,g3,cv3,hv3,C3⟩=>?_;subst hv3;rw[hc3]at C3;have o3:=C3.one;have q3:=C3.gU;have b0:=(f3 n (by omega)).trans ((f2 n (by omega)).trans e0);have b1:=(f3 (n+1) (by omega)).trans ((f2 (n+1) (by omega)).trans e1);have b2:=(f3 (n+2) (by omega)).trans ((f2 (n+2) (by omega)).trans e2);have b3:=(f3 n1 (by omega)).trans a1;simp(disch:=omega)only[W_,eu,to,IS,o3,q3,b0,b1,b3,o1,ot,dW o3,dW ot];have f4:∀b,b<n3->(If M3 n3 (some (.cells [cv3] 0 false true)):FM) b=M3 b:=λb hb=>gu;have t4:=eB M3 n3 (some (.cells [cv3] 0 false true));have C4:=C3.frame (N':=n3+1) (by omega) f4;revert f4 t4 C4;generalize (If M3 n3 (some (.cells [cv3] 0 false true)):FM)=M4;intro f4 t4 C4;have T4:=((T.frame (N':=n1+2) (by omega) f2).frame k3 f3).frame (N':=n3+1) (by omega) f4;refine fI (MO T4 hx) λv5 M5 n5 r5 w5 ⟨k5,f5,g5,tv5,lv,hv5,T5,L5⟩=>?_;subst hv5;have ot5:=T5.one;have qt5:=T5.gU;have ol:=L5.one;have d1:=(f5 n1 (by omega)).trans ((f4 n1 (by omega)).trans b3);have d3:=(f5 n3 (by omega)).trans t4;simp(disch:=omega)only[W_,eu,to,IS,ot5,qt5,ol,d1,d3,o3,dW ot5,dW o3];have f6:∀b,b<n+3->(If (If M5 n5 (some (.cells [tv5] 0 false true))) n1 (some (.cells [.int .i64 (v.n:Int),.int .i64 (v.r:Int),tv5] 0 false true)):FM) b=M0 b:=λb hb=>(en _ _ _ _ (by omega)).trans ((en _ _ _ _ (by omega)).trans ((f5 b (by omega)).trans ((f4 b (by omega)).trans ((f3 b (by omega)).trans ((f2 b (by omega)).trans (f1 b (by omega)))))));have t6:=eB (If M5 n5 (some (.cells [tv5] 0 false true))) n1 (some (.cells [.int .i64 (v.n:Int),.int .i64 (v.r:Int),tv5] 0 false true));have t63:(If (If M5 n5 (some (.cells [tv5] 0 false true))) n1 (some (.cells [.int .i64 (v.n:Int),.int .i64 (v.r:Int),tv5] 0 false true)):FM) n3=_:=(en _ _ _ _ (by omega)).trans ((en _ _ _ _ (by omega)).trans d3);have fp:∀b,b<n5->(If M5 n5 (some (.cells [tv5] 0 false true)):FM) b=M5 b:=λb hb=>gu;have T6:=(T5.frame (N':=n5+1) (by omega) fp).other (M':=If (If M5 n5 (some (.cells [tv5] 0 false true))) n1 (some (.cells [.int .i64 (v.n:Int),.int .i64 (v.r:Int),tv5] 0 false true))) ((fp n1 (by omega)).trans d1) (by simp) λb hb=>en _ _ _ _ hb;have L6:=(L5.frame (N':=n5+1) (by omega) fp).other (M':=If (If M5 n5 (some (.cells [tv5] 0 false true))) n1 (some (.cells [.int .i64 (v.n:Int),.int .i64 (v.r:Int),tv5] 0 false true))) ((fp n1 (by omega)).trans d1) (by simp) λb hb=>en _ _ _ _ hb;have C6:=((C4.frame k5 f5).frame (N':=n5+1) (by omega) fp).other (M':=If (If M5 n5 (some (.cells [tv5] 0 false true))) n1 (some (.cells [.int .i64 (v.n:Int),.int .i64 (v.r:Int),tv5] 0 false true))) ((fp n1 (by omega)).trans d1) (by simp) λb hb=>en _ _ _ _ hb;revert f6 t6 t63 T6 L6 C6;generalize (If (If M5 n5 (some (.cells [tv5] 0 false true))) n1 (some (.cells [.int .i64 (v.n:Int),.int .i64 (v.r:Int),tv5] 0 false true)):FM)=M6;intro f6 t6 t63 T6 L6 C6;obtain⟨L,E6,V6,P6⟩:=L6;have lv6:lens L=(kY x.a (x.a+x.n) v.P).length:=by rw[<-P6,kR]
 have ll:=vm V6;have ml:=xt x.a (x.a+x.n) v.P;have sLe:sL L=slo (kY x.a (x.a+x.n) v.P):=congrArg slo P6
 have hcc:chg (-1) ((mF S (slv vs++slo x.pr)).map Int.ofNat) (sL L)=cnt S (iG ⟨s,v.n,v.r,asg x v.P⟩ vs):=zG (DS λz=>by
  rw[sLe,TH,TH];have h1:=BM (w:=⟨s,v.n,v.r,asg x v.P⟩) hv rfl z;have h2:=I5 (x:=x) hvo.sp z;dsimp only at h1
  omega)
 have hlen:(slv vs++slo x.pr).length<=100000000:=by rw[IT,show(slo x.pr).length=x.pr.length from SC ..,x.MT];have h2:=BN hI.vok;have:vs.length*65536<=32*65536:=Nat.mul_le_mul_right _ hI.few;omega
 refine fI (vM hY C6 E6 (by rw[SC,ib];exact h0) (by rw[SC,ib];exact hS) (by rw[SC,ib];exact Bj V6 P6 λp hp=>hvo.sl p (lQ.1 hp).1) (by omega) (by omega) (abr hlen) (by rw[sLe];exact AR hvo.nd) (by rw[hcc];exact Cz)) λv7 M7 n7 r7 w7 ⟨k7,f7,g7,cv7,fv,F,hv7,C7,F7⟩=>?_;subst hv7;rw[hcc]at C7;have o7:=C7.one;have q7:=C7.gU;have of7:=F7.one;have y0:=(f7 n (by omega)).trans ((f6 n (by omega)).trans t0);have y2:=(f7 (n+2) (by omega)).trans ((f6 (n+2) (by omega)).trans t2);have y4:=(f7 n1 (by omega)).trans t6;have y3:=(f7 n3 (by omega)).trans t63;have ne1:¬n3=n1:=by omega
 simp(disch:=omega)only[W_,eu,to,IS,o7,q7,of7,y0,y3,y4,o1,o2,ot5,dW o7,ne1];have C8:=C7.other (M':=If M7 n3 (some (.cells [cv7] 0 false true))) y3 (by simp) λb hb=>en _ _ _ _ hb;have F8:=F7.rn (M':=If M7 n3 (some (.cells [cv7] 0 false true))) y3 (by simp) (λb hb=>en _ _ _ _ hb) (IN _);have T8:=(T6.frame k7 f7).other (M':=If M7 n3 (some (.cells [cv7] 0 false true))) y3 (by simp) λb hb=>en _ _ _ _ hb;have f8:∀b,b<n+3->(If M7 n3 (some (.cells [cv7] 0 false true)):FM) b=M0 b:=λb hb=>gJ (by omega) ((f7 b (by omega)).trans (f6 b hb));revert C8 F8 T8 f8;generalize (If M7 n3 (some (.cells [cv7] 0 false true)):FM)=M8;intro C8 F8 T8 f8;refine fI (sG hM (v:=⟨s,v.n,v.r,asg x v.P⟩) o1 (H0.m.frame (N':=n7) (by omega) f8) C8 T8) λv9 M9 n9 r9 w9 ⟨k9,f9,g9,mv',hv9,E9⟩=>?_;subst hv9;have o9:=E9.one;have q9:=E9.gU;have C9:=C8.frame k9 f9;have q10:=C9.gU;have F9:=F8.frame k9 f9;have x2:=(f9 (n+2) (by omega)).trans ((f8 (n+2) (by omega)).trans t2);simp(disch:=omega)only[W_,eu,to,IS,fV,o7,o9,q9,q10,x2,of7,dW o7,dW o9];refine hQ _ _ _ _ _ (by omega) (λb hb=>gJ (by omega) ((f9 b (by omega)).trans ((f8 b (by omega)).trans (fr b hb)))) (by simp(disch:=omega)only[fB,eS,eR,and_self,g1,g3,g5,g7,g9]) rfl ⟨cv7,mv',fv,F,rfl,FamR.other (k:=n+2) ⟨C9,E9⟩ x2 (by simp) (by simp) λb hb=>en _ _ _ _ hb,F9.rn x2 (by simp) (λb hb=>en _ _ _ _ hb) (IN _)⟩
theorem TP.blk(h:TP m n tv P):Pure (fL PG EL Y 124 [tv] m n) m n (.int .i64 (P.length:Int)):=by
 obtain⟨L,⟨t,h1,rfl⟩,h4,rfl⟩:=h;have:=rC (Y:=Y) h1
 rwa [t.zP,<-kR]at this
theorem Fg(h:TP m n tv P):Pure (fL PG EL Y 58 [.agg #[tv]] m n) m n (.int .i64 (P.length:Int)):=by refine gC e58 rfl rfl ?_;simp only[ae4];have o:=h.one;simp(disch:=omega)only[W_,eu,to,U5,AS,By,BY,o,dW o];refine fF (TP.blk (h.frame (N':=n+1) (by omega) λb hb=>gu)) λr1=>?_;simp(disch:=omega)only[W_,eu,to,U5,AS,By,BY]
theorem Ni(h:∀p∈P,p.2<S):tK ((mF S (slv vs)).map Int.ofNat) (slo P)=ij vs P:=by unfold tK ij slo;rw[List.countP_map];refine List.countP_congr λp hp=>?_;have hs:=h p hp;show(((mF S (slv vs)).map Int.ofNat)[p.2]?==some 1)=true↔_;rw[To,ES _ hs];show((some (((slv vs).count p.2:Nat):Int)==some 1)=true)↔_;simp only[beq_iff_eq,Option.some.injEq];omega
def rF(vs:List Vo)(v:Vo):AT:=.agg #[.string v.nm,.int .i64 (v.n:Int),.int .i64 (v.r:Int),.int .i64 (v.P.length:Int),.int .i64 (ij vs v.P:Int)]
theorem pI(hU:YUp Y)(hC:me Y)(h:FamR S m n cv mv vs)(hI:Inv S vs)(hS:S<=65536){s:ByteArray}{v:Vo}(hv:gK vs s=some v):Kp (fL PG EL Y 23 [fV cv mv,.string s] m n) m n λr m' n'=>r=.tuple #[rF vs v,.int .i64 0]:=by
 have hvo:=hI.found hv;have hpl:=hvo.len;have hn2:=hvo.n2;have hnm:v.nm=s:=(jj hv).choose_spec.choose_spec.2.1;refine gG (R:=λr m' n'=>r=.tuple #[rF vs v,.int .i64 0]) e23 rfl λQ hQ=>?_;simp only[acn,fV];have o1:=h.c.one;have o2:=h.m.one;simp(disch:=omega)only[W_,eu,to,U5,AS,By,BY,o1,o2,dW o1,dW o2];obtain⟨fr,t0,t1⟩:=iu (m:=m) (n:=n) (a:=.cells [cv,mv] 0 false true) (b:=.cells [.string ⟨#[]⟩,.int .i64 0,.int .i64 0,.int .i64 0,.int .i64 0] 0 false true);revert fr t0 t1;generalize (If (If m n (some (.cells [cv,mv] 0 false true))) (n+1) (some (.cells [.string ⟨#[]⟩,.int .i64 0,.int .i64 0,.int .i64 0,.int .i64 0] 0 false true)):FM)=M0;intro fr t0 t1;have H0:=h.frame (N':=n+2) (by omega) fr;have hf:=pL (Y:=Y) H0 hv hn2 (a:=((0:Nat):Int)) (k:=((0:Nat):Int)) (by omega) (by omega);refine fI hf λv1 M1 n1 r1 w1 ⟨k1,f1,g1,tv,hv1,T⟩=>?_;subst hv1;have ot:=T.one;have qt:=T.gU;have qa:=T.gO;have e0:=(f1 n (by omega)).trans t0;have e1:=(f1 (n+1) (by omega)).trans t1;simp(disch:=omega)only[W_,eu,to,U5,AS,By,BY,mY,ot,qt,qa,dW ot];have fa:∀b,b<n1->(If M1 n1 (some (.cells [.int .i64 (v.n:Int),.int .i64 (v.r:Int),tv] 0 false true)):FM) b=M1 b:=λb hb=>gu;have ta:=eB M1 n1 (some (.cells [.int .i64 (v.n:Int),.int .i64 (v.r:Int),tv] 0 false true));have T2:=T.frame (N':=n1+1) (by omega) fa;have H2:=(H0.frame k1 f1).frame (N':=n1+1) (by omega) fa;have i0:=(fa n (by omega)).trans e0;have i1:=(fa (n+1) (by omega)).trans e1;revert fa ta T2 H2 i0 i1;generalize (If M1 n1 (some (.cells [.int .i64 (v.n:Int),.int .i64 (v.r:Int),tv] 0 false true)):FM)=M2;intro fa ta T2 H2 i0 i1;refine gS (Fg T2) λr2=>?_;have q2:=H2.c.gU;have qt2:=T2.gU;simp(disch:=omega)only[W_,eu,to,U5,AS,By,BY,i0,ta,o1,ot,q2,qt2,dW o1];refine mw hU (qA hC (v:=v) T2 (by omega)) λv3 M3 n3 r3 w3 ⟨k3,f3,g3,L,E3,V3,P3⟩ U3=>?_;have ox:=E3.one;have qxa:=E3.gO;have qx:=E3.gU;have C3:=H2.c.frame k3 f3;have q3a:=C3.gO;have q3:=C3.gU;have lv:lens L=v.P.length:=by rw[<-P3,kR]
 have ll:=vm V3;have La:=gE (g3 (n1+1) (IN _)) (show n<n1+1 by omega);have Lb:=gE (g3 (n1+1) (IN _)) (show n1<n1+1 by omega);simp(disch:=omega)only[W_,eu,to,U5,AS,By,BY,ox,qx,qxa,q3,q3a,o1,La,Lb];refine gS (DB C3 E3 (by rw[SC,ib];exact hS) (by rw[SC,ib];exact Bj V3 P3 hvo.sl) (by omega) (by omega) (by rw[P3];exact hvo.nd)) λr4=>?_;rw[P3,Ni hvo.sl];have j1:=(f3 (n+1) (by omega)).trans i1;have Lc:=gE (g3 (n1+1) (IN _)) (show n+1<n1+1 by omega);simp(disch:=omega)only[W_,eu,to,U5,AS,By,BY,j1,La,Lb,Lc];refine hQ _ _ _ _ _ (by omega) (λb hb=>gJ (by omega) ((f3 b (by omega)).trans ((fa b (by omega)).trans ((f1 b (by omega)).trans (fr b hb))))) (by simp(disch:=omega)only[fB,eS,eR,and_self,g1,g3]) rfl ?_;rw[rF,hnm]
def NR:AT:=.agg #[.string ⟨#[]⟩,.int .i64 0,.int .i64 0,.int .i64 0,.int .i64 0]
theorem NQ(h:FamR S m n cv mv vs){s:ByteArray}(hv:gK vs s=none):Kp (fL PG EL Y 23 [fV cv mv,.string s] m n) m n λr m' n'=>r=.tuple #[NR,.int .i64 9]:=by
 refine gG (R:=λr m' n'=>r=.tuple #[NR,.int .i64 9]) e23 rfl λQ hQ=>?_;simp only[acn,fV];have o1:=h.c.one;have o2:=h.m.one;simp(disch:=omega)only[W_,eu,to,U5,AS,By,BY,o1,o2,dW o1,dW o2];obtain⟨fr,t0,t1⟩:=iu (m:=m) (n:=n) (a:=.cells [cv,mv] 0 false true) (b:=.cells [.string ⟨#[]⟩,.int .i64 0,.int .i64 0,.int .i64 0,.int .i64 0] 0 false true);revert fr t0 t1;generalize (If (If m n (some (.cells [cv,mv] 0 false true))) (n+1) (some (.cells [.string ⟨#[]⟩,.int .i64 0,.int .i64 0,.int .i64 0,.int .i64 0] 0 false true)):FM)=M0;intro fr t0 t1;have H0:=h.frame (N':=n+2) (by omega) fr;have hf:=uF (Y:=Y) H0 (s:=s) (λv e=>by rw[hv]at e;cases e) (a:=((0:Nat):Int)) (k:=((0:Nat):Int)) (by omega) (λv e=>by rw[hv]at e;cases e);refine fI hf λv1 M1 n1 r1 w1 ⟨k1,f1,g1,e,hv1,he⟩=>?_;subst hv1;rcases he with⟨_,rfl⟩|⟨h2,_⟩
 ·have e1:=(f1 (n+1) (by omega)).trans t1;simp(disch:=omega)only[W_,eu,to,U5,AS,By,BY,e1];exact hQ _ _ _ _ _ (by omega) (λb hb=>(en _ _ _ _ (by omega)).trans ((en _ _ _ _ (by omega)).trans ((f1 b (by omega)).trans (fr b hb)))) (by simp(disch:=omega)only[fB,eS,eR,and_self,g1]) rfl rfl
 ·exact absurd hv h2
theorem wK{nm:ByteArray}{e:Nat}(h:r<=1000000/\e<=1000000):Pure (fL PG EL Y 258 [.agg #[.string nm,.int .i64 (a:Int),.int .i64 (r:Int),.int .i64 (b:Int),.int .i64 (e:Int)]] m n) m n (.int .i64 ((r-e:Nat):Int)):=by
 refine gC e258 rfl rfl ?_;simp only[Qc];by_cases c:e<=r
 ·have hI:((r:Nat):Int)-((e:Nat):Int)=((r-e:Nat):Int):=by omega
  have hmx:mxV (.int .i64 0) (.int .i64 ((r-e:Nat):Int))=some (.int .i64 ((r-e:Nat):Int)):=by
   have:=zb 0 (r-e)
   rwa [show Nat.max 0 (r-e)=r-e from Nat.max_eq_right (Tq _)]at this
  simp(disch:=omega)only[W_,eu,to,U5,AS,By,BY,hI,hmx]
 ·have hI:((r-e:Nat):Int)=0:=by omega
  have hmx:mxV (.int .i64 0) (.int .i64 (((r:Nat):Int)-((e:Nat):Int)))=some (.int .i64 0):=by show some (Value.int .i64 (cond (ltB 0 (((r:Nat):Int)-((e:Nat):Int))) (((r:Nat):Int)-((e:Nat):Int)) 0))=_;rw[lY,decide_eq_false (by omega)];rfl
  rw[hI];simp(disch:=omega)only[W_,eu,to,U5,AS,By,BY,hmx]
theorem wJ(hU:YUp Y)(hC:me Y)(h:FamR S m n cv mv vs)(hI:Inv S vs)(hS:S<=65536){s:ByteArray}{v:Vo}(hv:gK vs s=some v):Pure (fL PG EL Y 172 [fV cv mv,.string s] m n) m n (.tuple #[.int .i64 (ix vs v:Int),.int .i64 0]):=by have hvo:=hI.found hv;refine gC e172 rfl rfl ?_;simp only[QF,fV];have o1:=h.c.one;have o2:=h.m.one;simp(disch:=omega)only[W_,eu,to,U5,AS,By,BY,o1,o2,dW o1,dW o2];have H0:=h.frame (N':=n+1) (M':=If m n (some (.cells [cv,mv] 0 false true))) (by omega) λb hb=>gu;refine fI (pI hU hC H0 hI hS hv) λv1 M1 n1 r1 w1 ⟨k1,f1,g1,hv1⟩=>?_;subst hv1;simp(disch:=omega)only[W_,eu,to,U5,AS,By,BY,rF];have h1:=hvo.r;have h2:=hvo.n2;have h3:ij vs v.P<=v.P.length:=List.countP_le_length;have h4:=hvo.len;refine fF (wK (by omega)) λr2=>?_;simp(disch:=omega)only[W_,eu,to,U5,AS,By,BY,g1];rfl
end Go.Am.CR
