/- The machine and its runs, part 8: AxWp AxSz AxLst AySa AySb AxEql AxNil AySc AySd. -/
import Derived.Laws.StructEq
import Derived.Test.YtokdochbjilecaaGreatDoorB7
set_option linter.unusedVariables false
set_option linter.unusedSimpArgs false
set_option linter.unusedSectionVars false
namespace Go.Am
open Go
inductive Frm where
 |sq (b:AC)
 |bl (id:Nat)
 |ps (sel:List Nat) (d:Nat)
section
variable{P:Program}{E:Nat->Option AFn}{Y:Nat->List Value->FM->Nat->OR FM}
noncomputable def uS(P:Program)(E:Nat->Option AFn)(Y:Nat->List Value->FM->Nat->OR FM):Frm->AX->List Value->FM->Nat->Nat->Nat->CR FM
 | .sq b=>fI (dt P E Y b)
 | .bl id=>kx id
 | .ps sel d=>mZ sel d
noncomputable def sx(P:Program)(E:Nat->Option AFn)(Y:Nat->List Value->FM->Nat->OR FM):List Frm->CR FM->CR FM
 |[],x=>x
 |f::K,x=>sx P E Y K (fY x (uS P E Y f))
theorem Gn(r w r' w':Nat)(x:CR FM):fP r w (fP r' w' x)=fP (Nat.lor r r') (Nat.lor w w') x:=by
 cases x with
 |no=>rfl
 |ok X e m n a b=>
  show CR.ok X e m n (Nat.lor r (Nat.lor r' a)) (Nat.lor w (Nat.lor w' b))=CR.ok X e m n (Nat.lor (Nat.lor r r') a) (Nat.lor (Nat.lor w w') b)
  have h:∀a b c:Nat,Nat.lor a (Nat.lor b c)=Nat.lor (Nat.lor a b) c:=fun a b c=>(Nat.or_assoc a b c).symm
  rw[h,h]
theorem Gb(f:Frm)(r w:Nat)(x:CR FM):fY (fP r w x) (uS P E Y f)=fP r w (fY x (uS P E Y f)):=by
 cases x with
 |no=>rfl
 |ok X e m n a b=>
  show uS P E Y f X e m n (Nat.lor r a) (Nat.lor w b)=fP r w (uS P E Y f X e m n a b)
  cases f with
  |sq c=>
   cases X with
   |norm=>exact(Gn r w a b _).symm
   |exit i=>rfl
   |ret v=>rfl
  |bl id=>
   cases X with
   |norm=>rfl
   |exit i=>
    show cond (Nat.beq i id) _ _=fP r w (cond (Nat.beq i id) _ _)
    cases Nat.beq i id<;>rfl
   |ret v=>rfl
  |ps sel d=>cases X<;>rfl
theorem xx:∀(K:List Frm) (r w:Nat) (x:CR FM),sx P E Y K (fP r w x)=fP r w (sx P E Y K x)
 |[],_,_,_=>rfl
 |f::K,r,w,x=>by
  show sx P E Y K (fY (fP r w x) (uS P E Y f))=fP r w (sx P E Y K (fY x (uS P E Y f)))
  rw[Gb,xx K]
def Wr(P:Program)(E:Nat->Option AFn)(Y:Nat->List Value->FM->Nat->OR FM)(K:List Frm)(w0:Nat)(x:CR FM)(Q:AX->List Value->FM->Nat->Nat->Prop):Prop:=
 Gv (sx P E Y K x) fun X e m n w=>Q X e m n (Nat.lor w0 w)
variable{K:List Frm}{w0:Nat}{Q:AX->List Value->FM->Nat->Nat->Prop}{e:List Value}{m:FM}{n r w:Nat}
theorem Ni(a b:AC):Wr P E Y K w0 (dt P E Y (.seq a b) e m n) Q=Wr P E Y (.sq b::K) w0 (dt P E Y a e m n) Q:=by rw[ME];rfl
theorem En(id:Nat)(sh:List (List Nat))(b:AC):Wr P E Y K w0 (dt P E Y (.block id sh b) e m n) Q=Wr P E Y (.bl id::K) w0 (dt P E Y b e m n) Q:=by rw[Ko];rfl
theorem HW(c:AC)(sel:List Nat)(d:Nat):Wr P E Y K w0 (dt P E Y (.post c sel d) e m n) Q=Wr P E Y (.ps sel d::K) w0 (dt P E Y c e m n) Q:=by rw[NM];rfl
theorem k_sq(b:AC):Wr P E Y (.sq b::K) w0 (.ok .norm e m n r w) Q=Wr P E Y K (Nat.lor w0 w) (dt P E Y b e m n) Q:=by
 show Gv (sx P E Y K (fP r w (dt P E Y b e m n))) _=Gv (sx P E Y K (dt P E Y b e m n)) _
 rw[xx,PZ]
 have h:∀a b c:Nat,Nat.lor a (Nat.lor b c)=Nat.lor (Nat.lor a b) c:=fun a b c=>(Nat.or_assoc a b c).symm
 simp only[h]
theorem xd(b:AC)(i:Nat):Wr P E Y (.sq b::K) w0 (.ok (.exit i) e m n r w) Q=Wr P E Y K w0 (.ok (.exit i) e m n r w) Q:=rfl
theorem AH(b:AC)(v:Value):Wr P E Y (.sq b::K) w0 (.ok (.ret v) e m n r w) Q=Wr P E Y K w0 (.ok (.ret v) e m n r w) Q:=rfl
theorem k_bl(id:Nat):Wr P E Y (.bl id::K) w0 (.ok .norm e m n r w) Q=Wr P E Y K w0 (.ok .norm e m n r w) Q:=rfl
theorem xf(id i:Nat):Wr P E Y (.bl id::K) w0 (.ok (.exit i) e m n r w) Q=Wr P E Y K w0 (cond (Nat.beq i id) (.ok .norm e m n r w) (.ok (.exit i) e m n r w)) Q:=rfl
theorem AK(id:Nat)(v:Value):Wr P E Y (.bl id::K) w0 (.ok (.ret v) e m n r w) Q=Wr P E Y K w0 (.ok (.ret v) e m n r w) Q:=rfl
theorem k_ps(sel:List Nat)(d:Nat):Wr P E Y (.ps sel d::K) w0 (.ok .norm e m n r w) Q=Wr P E Y K w0 (.ok .norm (AV sel d e) m n r w) Q:=rfl
theorem xe(sel:List Nat)(d i:Nat):Wr P E Y (.ps sel d::K) w0 (.ok (.exit i) e m n r w) Q=Wr P E Y K w0 (.ok (.exit i) e m n r w) Q:=rfl
theorem AJ(sel:List Nat)(d:Nat)(v:Value):Wr P E Y (.ps sel d::K) w0 (.ok (.ret v) e m n r w) Q=Wr P E Y K w0 (.ok (.ret v) e m n r w) Q:=rfl
theorem Nj(X:AX):Wr P E Y [] w0 (.ok X e m n r w) Q=Q X e m n (Nat.lor w0 w):=rfl
noncomputable def Iy(P:Program)(E:Nat->Option AFn)(Y:Nat->List Value->FM->Nat->OR FM)(a b:AC)(e:List Value)(m:FM)(n:Nat):Value->CR FM
 | .bool t=>cond t (dt P E Y a e m n) (dt P E Y b e m n)
 |_=>.no
theorem HX(x:Opd)(a b:AC):dt P E Y (.cond x a b) e m n=Iy P E Y a b e m n (ev e x):=by
 rw[NO]
 cases ev e x<;>rfl
theorem IJ(a b:AC):Iy P E Y a b e m n (.bool true)=dt P E Y a e m n:=rfl
theorem EK(a b:AC):Iy P E Y a b e m n (.bool false)=dt P E Y b e m n:=rfl
theorem gR{c:AC}(h:Wr P E Y [] 0 (dt P E Y c e m n) Q):Gv (dt P E Y c e m n) Q:=by
 refine Gv.mono h fun X e m n w hq=>?_
 rwa [show Nat.lor 0 w=w from Nat.zero_or w]at hq
theorem Km{sh:List (List Nat)}{b:AC}(h:Wr P E Y [.sq (.loop sh b)] 0 (dt P E Y b e m n) Q):Gv (dt P E Y (.loop sh b) e m n) Q:=by
 rw[NN]
 refine Gv.mono h fun X e m n w hq=>?_
 rwa [show Nat.lor 0 w=w from Nat.zero_or w]at hq
theorem dm{L b:AC}{sh:List (List Nat)}(hL:L=.loop sh b)(h:Wr P E Y [.sq L] 0 (dt P E Y b e m n) Q):Gv (dt P E Y L e m n) Q:=by
 subst hL;exact Km h
theorem fL{x:CR FM}(h:Gv x fun X e m n w=>∀r,Wr P E Y K w0 (.ok X e m n r w) Q):Wr P E Y K w0 x Q:=by
 obtain⟨X,e,m,n,r,w,rfl,hq⟩:=fX h
 exact hq r
theorem dM{x:CR FM}{Q1:AX->List Value->FM->Nat->Nat->Prop}(h:Gv x Q1)(hk:∀X e m n w,Q1 X e m n w->Q X e m n (Nat.lor w0 w)):Wr P E Y [] w0 x Q:=Gv.mono h hk
def Rt(x:OR FM)(R:Value->FM->Nat->Nat->Prop):Prop:=
 match x with
 | .no=>False
 | .ok v m n _ w=>R v m n w
theorem Rt.some{x:OR FM}{R:Value->FM->Nat->Nat->Prop}(h:Rt x R):∃v m n r w,x=.ok v m n r w/\R v m n w:=by
 cases x with
 |no=>exact h.elim
 |ok v m n r w=>exact⟨v,m,n,r,w,rfl,h⟩
theorem Rt.mono{x:OR FM}{R R':Value->FM->Nat->Nat->Prop}(h:Rt x R)(hr:∀v m n w,R v m n w->R' v m n w):Rt x R':=by
 cases x with
 |no=>exact h
 |ok v m n r w=>exact hr _ _ _ _ h
variable{rec:Nat->List Value->FM->Nat->OR FM}{l:List AI}{lx:List (AI×Nat)}{x:OR FM}{v:Value}{r0 w1:Nat}
theorem dw{R:Value->FM->Nat->Nat->Prop}(h:Rt x R)(hk:∀v m' n' r' w',R v m' n' w'->Wr P E Y K w0 (qV (mN P rec l (.ok (v::e) m' n' (Nat.lor r0 r') (Nat.lor w1 w')))) Q):Wr P E Y K w0 (qV (mN P rec l (dF e r0 w1 x))) Q:=by
 obtain⟨v,m',n',r',w',rfl,hq⟩:=h.some
 exact hk _ _ _ _ _ hq
theorem di(h:Pure x m n v)(hk:∀r',Wr P E Y K w0 (qV (mN P rec l (.ok (v::e) m n (Nat.lor r0 r') (Nat.lor w1 0)))) Q):Wr P E Y K w0 (qV (mN P rec l (dF e r0 w1 x))) Q:=by
 obtain⟨r',rfl⟩:=h
 exact hk r'
theorem fx{b k:Nat}{kv:Bool}{done:List (Nat×Nat×Nat)}{R:Value->FM->Nat->Nat->Prop}(h:Rt x R)(hk:∀v m' n' r' w',R v m' n' w'->Wr P E Y K w0 (mT (ll P rec lx (iw b kv k done e r0 w1 (.ok v m' n' r' w')))) Q):Wr P E Y K w0 (mT (ll P rec lx (iw b kv k done e r0 w1 x))) Q:=by
 obtain⟨v,m',n',r',w',rfl,hq⟩:=h.some
 exact hk _ _ _ _ _ hq
theorem dV{b k:Nat}{kv:Bool}{done:List (Nat×Nat×Nat)}(h:Pure x m n v)(hk:∀r',Wr P E Y K w0 (mT (ll P rec lx (iw b kv k done e r0 w1 (.ok v m n r' 0)))) Q):Wr P E Y K w0 (mT (ll P rec lx (iw b kv k done e r0 w1 x))) Q:=by
 obtain⟨r',rfl⟩:=h
 exact hk r'
end
section
variable{P:Program}{rec:Nat->List Value->FM->Nat->OR FM}
theorem rz(b r w:Nat)(l:List (Nat×Nat×Nat)):apart b r w l=l.all fun x=>(Nat.testBit b x.1 || (Nat.beq (Nat.land w (Nat.lor x.2.1 x.2.2)) 0&&Nat.beq (Nat.land x.2.2 r) 0)):=by
 induction l with
 |nil=>rfl
 |cons x l ih=>obtain⟨i,r',w'⟩:=x;show(_&&apart b r w l)=_;rw[ih];rfl
def Ff(d d':List (Nat×Nat×Nat)):Prop:=(∀x∈d',x∈d)/\∀x∈d,x∈d'\/(x.2.1=0/\x.2.2=0)
theorem De{b r w:Nat}{d d':List (Nat×Nat×Nat)}(h:Ff d d'):apart b r w d=apart b r w d':=by
 rw[Bool.eq_iff_iff,rz,rz,List.all_eq_true,List.all_eq_true]
 refine⟨fun k x hx=>k x (h.1 x hx),fun k x hx=>?_⟩
 rcases h.2 x hx with h1|⟨h1,h2⟩
 ·exact k x h1
 ·rw[h1,h2,show Nat.lor 0 0=0 from rfl,lX,lM];simp
theorem Dd(b:Nat)(d:List (Nat×Nat×Nat)):apart b 0 0 d=true:=by
 rw[rz,List.all_eq_true]
 intro x _
 rw[lM,lX];simp
theorem DD:∀(l:List AI) (bs:List Nat) (k:Nat) (d d':List (Nat×Nat×Nat)) (e:List Value) (m:FM) (n r w:Nat),Ff d d'->fH P rec l bs k d' e m n r w=mT (ll P rec (sP l bs) (.ok k d e m n r w))
 |[],bs,k,d,d',e,m,n,r,w,_=>by
  show sn e m n r w=_
  rw[sn,dT,dT];rfl
 |i::l,bs,k,d,d',e,m,n,r,w,hs=>by
  have ih:=DD l bs.tail (k+1)
  have hcons:∀y:Nat×Nat×Nat,Ff (y::d) (y::d'):=fun y=>⟨fun x hx=>by
    rcases List.mem_cons.1 hx with rfl|hx
    ·exact List.mem_cons_self ..
    ·exact List.mem_cons_of_mem _ (hs.1 x hx),fun x hx=>by
    rcases List.mem_cons.1 hx with rfl|hx
    ·exact .inl (List.mem_cons_self ..)
    ·exact(hs.2 x hx).imp (List.mem_cons_of_mem _) id⟩
  have hzero:Ff ((k,0,0)::d) d':=⟨fun x hx=>List.mem_cons_of_mem _ (hs.1 x hx),fun x hx=>by
    rcases List.mem_cons.1 hx with rfl|hx
    ·exact .inr ⟨rfl,rfl⟩
    ·exact hs.2 x hx⟩
  have hone:∀(o:AOp) (kv:Bool),(okD (bs.headD 0) k d' (eH P rec e m n o) fun v m n r' w' done=>fH P rec l bs.tail (Nat.succ k) done (cond kv (v::e) e) m n (Nat.lor r r') (Nat.lor w w'))=mT (ll P rec (sP l bs.tail) (iw (bs.headD 0) kv k d e r w (eH P rec e m n o))):=by
   intro o kv
   cases eH P rec e m n o with
   |no=>show CR.no=mT (ll P rec (sP l bs.tail) .no);rw[DC];rfl
   |ok v m1 n1 r1 w1=>
    show(jV r1 fun r1=>jV w1 fun w1=>cond (Nat.beq (Nat.lor r1 w1) 0) (fH P rec l bs.tail (Nat.succ k) d' (cond kv (v::e) e) m1 n1 (Nat.lor r r1) (Nat.lor w w1)) (cond (apart (bs.headD 0) r1 w1 d') (fH P rec l bs.tail (Nat.succ k) ((k,r1,w1)::d') (cond kv (v::e) e) m1 n1 (Nat.lor r r1) (Nat.lor w w1)) .no))=mT (ll P rec (sP l bs.tail) (cond (apart (bs.headD 0) r1 w1 d) _ .no))
    rw[dT,dT,De hs]
    by_cases hz:Nat.lor r1 w1=0
    ·have h1:r1=0:=by have:=Nat.le_of_eq hz;have h2:r1<=Nat.lor r1 w1:=Nat.left_le_or;omega
     have h2:w1=0:=by have:=Nat.le_of_eq hz;have h2:w1<=Nat.lor r1 w1:=Nat.right_le_or;omega
     subst h1;subst h2
     rw[Dd]
     exact ih _ _ _ _ _ _ _ hzero
    ·have:Nat.beq (Nat.lor r1 w1) 0=false:=by
      cases hb:Nat.beq (Nat.lor r1 w1) 0
      ·rfl
      ·exact absurd (Nat.eq_of_beq_eq_true hb) hz
     rw[this]
     cases ha:apart (bs.headD 0) r1 w1 d'
     ·show CR.no=mT (ll P rec (sP l bs.tail) .no);rw[DC];rfl
     ·exact ih _ _ _ _ _ _ _ (hcons _)
  cases i with
  |nop i=>exact ih _ _ _ _ _ _ _ hs
  |op o=>exact hone o true
  |eff o=>exact hone o false
  |opg o gi gw=>
   show cond (dQ gw (ey e gi)) (okD (bs.headD 0) k d' (eH P rec e m n o) fun v m n r' w' done=>fH P rec l bs.tail (Nat.succ k) done (v::e) m n (Nat.lor r r') (Nat.lor w w')) (fH P rec l bs.tail (Nat.succ k) d' (undef::e) m n r w)=mT (ll P rec (sP l bs.tail) (cond (dQ gw (ey e gi)) (iw (bs.headD 0) true k d e r w (eH P rec e m n o)) (.ok (k+1) d (undef::e) m n r w)))
   cases dQ gw (ey e gi)
   ·exact ih _ _ _ _ _ _ _ hs
   ·exact hone o true
  |effg o gi gw=>
   show cond (dQ gw (ey e gi)) (okD (bs.headD 0) k d' (eH P rec e m n o) fun _ m n r' w' done=>fH P rec l bs.tail (Nat.succ k) done e m n (Nat.lor r r') (Nat.lor w w')) (fH P rec l bs.tail (Nat.succ k) d' e m n r w)=mT (ll P rec (sP l bs.tail) (cond (dQ gw (ey e gi)) (iw (bs.headD 0) false k d e r w (eH P rec e m n o)) (.ok (k+1) d e m n r w)))
   cases dQ gw (ey e gi)
   ·exact ih _ _ _ _ _ _ _ hs
   ·exact hone o false
variable{E:Nat->Option AFn}{Y:Nat->List Value->FM->Nat->OR FM}{e:List Value}{m:FM}{n:Nat}
theorem HV(l:List AI)(bs:List Nat):dt P E Y (.regD l bs) e m n=mT (ll P (df P E Y) (sP l bs) (.ok 0 [] e m n 0 0)):=by
 rw[NL]
 exact DD l bs 0 [] [] e m n 0 0 ⟨fun _ h=>h,fun _ h=>.inl h⟩
theorem AF(b k:Nat)(done:List (Nat×Nat×Nat))(r w:Nat)(kv:Bool)(v:Value)(r' w':Nat):iw b kv k done e r w (.ok v m n r' w')=cond (apart b r' w' done) (.ok (k+1) ((k,r',w')::done) (cond kv (v::e) e) m n (Nat.lor r r') (Nat.lor w w')) .no:=rfl
theorem zH(o:AOp):eH P rec e m n o=cond (j8 n e o) (dJ P rec e m n o) .no:=rfl
end
section
variable{m:FM}{n b o:Nat}
theorem Nh:rh m n (.pointer (some ⟨b,o,none⟩))=iq (fg m n b) (fun c=>lP m n b (fh c o)):=rfl
theorem Ng(k:Nat):vR k m n (.pointer (some ⟨b,o,none⟩))=iq (fg m n b) (fun c=>lP m n b (qq (eO c o k))):=rfl
theorem mG(c:List Value)(s:Nat)(p q:Bool)(f:List Value->OR FM):iq (some (.cells c s p q)) f=f c:=rfl
theorem Dl(v:Value):lP m n b (some v)=.ok v m n (bit b) 0:=rfl
theorem IG(a:Value)(l:List Value):fh (a::l) 0=some a:=rfl
theorem II(a:Value)(l:List Value)(i:Nat):fh (a::l) (i+1)=fh l i:=rfl
theorem eU(c:List Value)(k:Nat):eO c o k=oC (lE c o) k:=rfl
theorem EC(l:List Value):oC l 0=some []:=by cases l<;>rfl
theorem ED(a:Value)(l:List Value)(k:Nat):oC (a::l) (k+1)=jQ a (oC l k):=rfl
theorem ul(x:Value)(l:List Value):jQ x (some l)=some (x::l):=rfl
theorem EU(c:List Value):qq (some c)=some (.agg c.toArray):=rfl
theorem st_c(k:Nat)(vs:List Value):stV k vs m n (.pointer (some ⟨b,o,none⟩))=cond (Nat.beq (gx vs) k&&vs.all one) (stC m n b o vs (fg m n b)) .no:=rfl
theorem GK(vs c:List Value)(sz:Nat)(opn:Bool):stC m n b o vs (some (.cells c sz opn true))=qR m n b sz opn undef (bit b) (setCells c o vs):=rfl
theorem DN(sz:Nat)(opn:Bool)(v:Value)(r:Nat)(c:List Value):qR m n b sz opn v r (some c)=.ok v (AMem.put m b (some (.cells c sz opn true))) n r (bit b):=rfl
theorem sc_z(x:Value)(c vs:List Value):setCells (x::c) 0 vs=cover vs (x::c):=rfl
theorem sc_s(x:Value)(c vs:List Value)(i:Nat):setCells (x::c) (i+1) vs=jQ x (setCells c i vs):=rfl
theorem xu(c:List Value):cover [] c=some c:=rfl
theorem uR(v:Value)(vs:List Value)(y:Value)(c:List Value):cover (v::vs) (y::c)=jQ v (cover vs c):=rfl
theorem AA:gx []=0:=rfl
theorem wU(a:Value)(l:List Value):gx (a::l)=gx l+1:=rfl
theorem D4(k:IntKind)(z:Int):one (.int k z)=true:=rfl
theorem Aj(t:Bool):one (.bool t)=true:=rfl
theorem D3(a:Option Addr):one (.pointer a)=true:=rfl
theorem wJ(a:Option Addr)(l c:Nat):one (.slice a l c)=true:=rfl
theorem D2(s:ByteArray):one (.string s)=true:=rfl
theorem uV(t:Bool):(Value.bool t).cells.toList=[.bool t]:=rfl
theorem xA(a:Option Addr):(Value.pointer a).cells.toList=[.pointer a]:=rfl
theorem sC(a:Option Addr)(l c:Nat):(Value.slice a l c).cells.toList=[.slice a l c]:=rfl
theorem xz(s:ByteArray):(Value.string s).cells.toList=[.string s]:=rfl
theorem dW{v:Value}(h:one v=true):v.cells.toList=[v]:=by cases v<;>first|rfl|cases h
theorem wE(e:List Value)(vs:List Value)(r i:Nat):yj e m n vs r (.cell i)=ua m n vs r (fun o c=>fh c o) (ey e i):=rfl
theorem rN(e:List Value)(vs:List Value)(r i k:Nat):yj e m n vs r (.cells i k)=ua m n vs r (fun o c=>qq (eO c o k)) (ey e i):=rfl
theorem He(vs:List Value)(r:Nat)(f:Nat->List Value->Option Value):ua m n vs r f (.pointer (some ⟨b,o,none⟩))=KL vs r b (f o) (fg m n b):=rfl
theorem DI(vs:List Value)(r:Nat)(f:List Value->Option Value)(c:List Value)(s:Nat)(p q:Bool):KL vs r b f (some (.cells c s p q))=Option.rec (motive:=fun _=>Option (List Value×Nat)) none (fun v=>some (v::vs,Nat.lor r (bit b))) (f c):=rfl
theorem dH(i:Nat)(l:List Value):xl i (.tuple l.toArray)=fh l i:=rfl
theorem Hc(a b:Value):tY [a,b]=.tuple [a,b].toArray:=rfl
theorem Ha(a b c:Value):tY [a,b,c]=.tuple [a,b,c].toArray:=rfl
theorem G'(a b c d:Value):tY [a,b,c,d]=.tuple [a,b,c,d].toArray:=rfl
theorem Ab(e:List Value):kU e []=[]:=rfl
theorem Ac(e:List Value)(a b:Nat)(x:Opd)(l:List (Nat×Nat×Opd)):kU e ((a,b,x)::l)=(a,b,ev e x)::kU e l:=rfl
theorem Ad(sz:Nat)(e:List Value):iV sz e []=[]:=rfl
theorem Ae(sz:Nat)(e:List Value)(a:Nat)(x:Opd)(l:List (Nat×Opd)):iV sz e ((a,x)::l)=(Nat.mul a sz,sz,ev e x)::iV sz e l:=rfl
theorem H9(c:List Value):jW [] c=some c:=rfl
theorem H'(a k:Nat)(v:Value)(ps:List (Nat×Nat×Value))(c:List Value):jW ((a,k,v)::ps) c=cond (Nat.beq (gx v.cells.toList) k) (Option.rec (motive:=fun _=>Option (List Value)) none (jW ps) (setCells c a v.cells.toList)) none:=rfl
theorem Hg(z:List Value):mE z 0=[]:=rfl
theorem Hh(z:List Value)(k:Nat):mE z (k+1)=z++mE z k:=rfl
theorem Ee(sz len:Nat)(c:List Value):Ap m n sz len (some c)=kZ m n (.cells c sz false true) (yb 0 len len):=rfl
theorem AE(a b c:Nat):Nat.land a (Nat.lor b c)=Nat.lor (Nat.land a b) (Nat.land a c):=Nat.and_or_distrib_left ..
theorem Aw(a b c:Nat):Nat.land (Nat.lor a b) c=Nat.lor (Nat.land a c) (Nat.land b c):=Nat.and_or_distrib_right ..
theorem wY{i j:Nat}(h:i≠j):Nat.land (bit i) (bit j)=0:=by
 apply Nat.eq_of_testBit_eq
 intro k
 show(bit i &&& bit j).testBit k=_
 rw[Nat.testBit_and,mo,mo,Nat.testBit_two_pow,Nat.testBit_two_pow,Nat.zero_testBit]
 by_cases h1:i=k
 ·by_cases h2:j=k
  ·omega
  ·simp[h2]
 ·simp[h1]
theorem Ny{p:Prop}[Decidable p](h:p):decide p=true:=decide_eq_true h
theorem Nz{p:Prop}[Decidable p](h:¬p):decide p=false:=decide_eq_false h
theorem wrap_i64{z:Int}(h:-9223372036854775808<=z)(h':z<9223372036854775808):IntKind.i64.wrap z=z:=ja h h'
theorem DL{a b:Int}(h:b≠0):fN .quo .i64 a b=some (.int .i64 (IntKind.i64.wrap (a.tdiv b))):=by rw[i_quo,if_neg h]
theorem DK{a b:Int}(h:b≠0):fN .rem .i64 a b=some (.int .i64 (a.tmod b)):=by rw[H5,if_neg h]
theorem wN(k:IntKind)(i:Nat):eN (.int k (no_index (OfNat.ofNat i)))=some (OfNat.ofNat i):=rfl
end
theorem jg(n:Nat):Nat.mod 0 (bit n)=0:=Nat.zero_mod _
theorem dE{n k:Nat}(h:n<=k):Nat.mod (bit k) (bit n)=0:=Cr h
theorem Li{a b n:Nat}(h:Nat.mod a (bit n)=0):Nat.mod (Nat.lor a b) (bit n)=Nat.mod b (bit n):=by
 apply Nat.eq_of_testBit_eq
 intro i
 rw[nh,nh,c9]
 by_cases hi:i<n
 ·rw[dK h i hi];simp
 ·simp[hi]
theorem eL(a b n:Nat):(Nat.mod (Nat.lor a b) (bit n)=0)=(Nat.mod a (bit n)=0/\Nat.mod b (bit n)=0):=by
 refine propext ⟨fun h=>?_,fun⟨h1,h2⟩=>by rw[Li h1,h2]⟩
 have key:∀i,i<n->(Nat.lor a b).testBit i=false:=fun i hi=>dK h i hi
 constructor<;>
 ·apply Nat.eq_of_testBit_eq
  intro i
  rw[nh,Nat.zero_testBit]
  by_cases hi:i<n
  ·have:=key i hi
   rw[c9,Bool.or_eq_false_iff]at this
   simp[this.1,this.2]
  ·simp[hi]
theorem AQ{x j k:Nat}(hx:Nat.mod x (bit k)=0)(h:j<=k):Nat.mod x (bit j)=0:=by
 rw[mo]at hx ⊢
 exact Nat.mod_eq_zero_of_dvd (Nat.dvd_trans (Nat.pow_dvd_pow 2 h) (Nat.dvd_of_mod_eq_zero hx))
section
variable{P:Program}{E:Nat->Option AFn}{Y:Nat->List Value->FM->Nat->OR FM}{m:FM}{n:Nat}
theorem dz{f:Nat}{fn:AFn}{args:List Value}{v:Value}(hE:E f=some fn)(ha:gx args=fn.na)(hv:du v=true)(h:Wr P E Y [] 0 (dt P E Y fn.code args m n) fun X _ _ _ w=>X=.ret v/\Nat.mod w (bit n)=0):Pure (df P E Y f args m n) m n v:=by
 rw[gZ hE ha]
 exact DO hv (gR h)
theorem ez{f:Nat}{fn:AFn}{args:List Value}{R:Value->FM->Nat->Prop}(hE:E f=some fn)(ha:gx args=fn.na)(h:∀Q:AX->List Value->FM->Nat->Nat->Prop,(∀v e m' n' w,n<=n'->(∀b,b<n->m' b=m b)->Nat.mod w (bit n)=0->du v=false->R v m' n'->Q (.ret v) e m' n' w)->Wr P E Y [] 0 (dt P E Y fn.code args m n) Q):Rt (df P E Y f args m n) fun v m' n' w=>n<=n'/\(∀b,b<n->m' b=m b)/\(∀j,j<=n->Nat.mod w (bit j)=0)/\R v m' n':=by
 rw[gZ hE ha]
 obtain⟨X,e',m',n',r,w,hx,v,rfl,h1,h2,h3,hv,h4⟩:=fX (gR (h (fun X _ m' n' w=>∃v,X=.ret v/\n<=n'/\(∀b,b<n->m' b=m b)/\Nat.mod w (bit n)=0/\du v=false/\R v m' n') fun v _ m' n' w k1 k2 k3 k4 k5=>⟨v,rfl,k1,k2,k3,k4,k5⟩))
 rw[hx,iu,nj hv]
 exact⟨h1,h2,fun j hj=>AQ h3 hj,h4⟩
end
theorem qY{i j:Nat}(h:i≠j):Nat.beq i j=false:=by
 cases hb:Nat.beq i j
 ·rfl
 ·exact absurd (Nat.eq_of_beq_eq_true hb) h
theorem Sl.cell{m:FM}{n:Nat}{v:Value}{vs:List Value}(h:Sl m n v vs){i:Nat}{x:Value}(hx:vs[i]?=some x):∃b o c opn wr,fU 1 i v=some (.pointer (some ⟨b,o,none⟩))/\b<n/\m b=some (.cells c 1 opn wr)/\fh c o=some x:=by
 rcases h with⟨rfl,rfl⟩|⟨b,o,cap,c,opn,wr,rfl,hb,hm,hc⟩|⟨rfl,rfl,_⟩
 ·simp at hx
 ·have hi:i<vs.length:=(List.getElem?_eq_some_iff.1 hx).1
  refine⟨b,o+i*1,c,opn,wr,?_,hb,hm,?_⟩
  ·show cond (Nat.blt i vs.length) _ none=_
   rw[show Nat.blt i vs.length=true from Nat.ble_eq_true_of_le hi];rfl
  ·rw[eV,Nat.mul_one];exact hc i x hx
 ·simp at hx
theorem pt.cell{m:FM}{n:Nat}{v:Value}{xs:List Int}(h:pt m n v xs){i:Nat}(hi:i<xs.length):∃b o c opn wr,fU 1 i v=some (.pointer (some ⟨b,o,none⟩))/\b<n/\m b=some (.cells c 1 opn wr)/\fh c o=some (.int .i64 xs[i]):=
 Sl.cell h (by rw[List.getElem?_map,List.getElem?_eq_getElem hi];rfl)
theorem Rows.cell{m:FM}{n:Nat}{v:Value}{gs:List (List Int)}(h:Rows m n v gs){i:Nat}(hi:i<gs.length):∃b o c opn wr x,fU 1 i v=some (.pointer (some ⟨b,o,none⟩))/\b<n/\m b=some (.cells c 1 opn wr)/\fh c o=some x/\pt m n x gs[i]:=by
 obtain⟨vs,h1,h2,h3⟩:=h
 have hv:vs[i]?=some vs[i]:=List.getElem?_eq_getElem (by omega)
 obtain⟨b,o,c,opn,wr,k1,k2,k3,k4⟩:=h1.cell hv
 exact⟨b,o,c,opn,wr,_,k1,k2,k3,k4,h3 i _ _ hv (List.getElem?_eq_getElem hi)⟩
theorem Sl.bel{m:FM}{n:Nat}{v:Value}{vs:List Value}(h:Sl m n v vs)(N:Nat)(hN:n<=N):et N v=true:=by
 rcases h with⟨rfl,_⟩|⟨b,o,cap,c,opn,wr,rfl,hb,_⟩|⟨rfl,_,hb⟩
 ·rfl
 ·exact dC (show b<N by omega)
 ·exact dC (show 0<N by omega)
theorem Sl.yQ{m:FM}{n:Nat}{v:Value}{vs:List Value}(h:Sl m n v vs)(N:Nat)(hN:n<=N):gQ N v=true:=by
 rcases h with⟨rfl,_⟩|⟨b,o,cap,c,opn,wr,rfl,hb,_⟩|⟨rfl,_,hb⟩
 ·rfl
 ·exact dC (show b<N by omega)
 ·exact dC (show 0<N by omega)
theorem Sl.one{m:FM}{n:Nat}{v:Value}{vs:List Value}(h:Sl m n v vs):one v=true:=by
 rcases h with⟨rfl,_⟩|⟨b,o,cap,c,opn,wr,rfl,hb,_⟩|⟨rfl,_,hb⟩<;>rfl
theorem Rows.sl{m:FM}{n:Nat}{v:Value}{gs:List (List Int)}(h:Rows m n v gs):∃vs,Sl m n v vs:=by
 obtain⟨vs,h1,_⟩:=h
 exact⟨vs,h1⟩
theorem Rows.bel{m:FM}{n:Nat}{v:Value}{gs:List (List Int)}(h:Rows m n v gs)(N:Nat)(hN:n<=N):et N v=true:=let⟨_,h1⟩:=h.sl;h1.bel N hN
theorem Rows.yQ{m:FM}{n:Nat}{v:Value}{gs:List (List Int)}(h:Rows m n v gs)(N:Nat)(hN:n<=N):gQ N v=true:=let⟨_,h1⟩:=h.sl;h1.yQ N hN
theorem Rows.one{m:FM}{n:Nat}{v:Value}{gs:List (List Int)}(h:Rows m n v gs):Am.one v=true:=let⟨_,h1⟩:=h.sl;h1.one
theorem vi(n:Nat)(l:List Value):et n (.agg l.toArray)=l.all (gQ n):=rfl
theorem vl(n:Nat)(k:IntKind)(z:Int):gQ n (.int k z)=true:=rfl
theorem sK(n:Nat)(b:Bool):gQ n (.bool b)=true:=rfl
theorem sJ(n:Nat):gQ n (.slice none 0 0)=true:=rfl
theorem vk(n b o:Nat):gQ n (.pointer (some ⟨b,o,none⟩))=Nat.blt b n:=rfl
theorem vj(n:Nat)(s:ByteArray):gQ n (.string s)=true:=rfl
theorem xJ(n b o l c:Nat):et n (.slice (some ⟨b,o,none⟩) l c)=Nat.blt b n:=rfl
theorem xK(n b o l c:Nat):gQ n (.slice (some ⟨b,o,none⟩) l c)=Nat.blt b n:=rfl
theorem vf(n:Nat)(s:ByteArray):et n (.string s)=true:=rfl
section
variable{μ:Type}[AMem μ]{P:Program}{rec:Nat->List Value->μ->Nat->OR μ}
theorem zW(e:List Value)(m:μ)(n r w:Nat):mN P rec [] (.ok e m n r w)=.ok e m n r w:=rfl
theorem zp(k:Nat)(d:List (Nat×Nat×Nat))(e:List Value)(m:μ)(n r w:Nat):ll P rec [] (.ok k d e m n r w)=.ok k d e m n r w:=rfl
theorem wG(i:AI)(l:List AI)(e:List Value)(m:μ)(n r w:Nat):mN P rec (i::l) (.ok e m n r w)=mN P rec l (jJ P rec (.ok e m n r w) i):=rfl
theorem vV(i:AI×Nat)(l:List (AI×Nat))(k:Nat)(d:List (Nat×Nat×Nat))(e:List Value)(m:μ)(n r w:Nat):ll P rec (i::l) (.ok k d e m n r w)=ll P rec l (tG P rec (.ok k d e m n r w) i):=rfl
end
theorem zC(a b:Nat):((a:Int)).tdiv (b:Int)=((a / b:Nat):Int):=rfl
theorem zA(a b:Nat):((a:Int)).tmod (b:Int)=((a % b:Nat):Int):=rfl
theorem zD(a b:Nat):((a:Int)).tdiv (no_index (OfNat.ofNat b))=((a / (OfNat.ofNat b:Nat):Nat):Int):=rfl
theorem zB(a b:Nat):((a:Int)).tmod (no_index (OfNat.ofNat b))=((a % (OfNat.ofNat b:Nat):Nat):Int):=rfl
theorem Ed(a b:Nat):((a:Int))+(b:Int)=((a+b:Nat):Int):=rfl
theorem Ec(a b:Nat):((a:Int))*(b:Int)=((a*b:Nat):Int):=rfl
theorem rW(a b:Nat):((a:Int))+(no_index (OfNat.ofNat b))=((a+(OfNat.ofNat b:Nat):Nat):Int):=rfl
theorem rV(a b:Nat):(no_index (OfNat.ofNat b))+((a:Int))=(((OfNat.ofNat b:Nat)+a:Nat):Int):=rfl
theorem rU(a b:Nat):((a:Int))*(no_index (OfNat.ofNat b))=((a*(OfNat.ofNat b:Nat):Nat):Int):=rfl
theorem rT{a b:Nat}(h:(OfNat.ofNat b:Nat)<=a):((a:Int))-(no_index (OfNat.ofNat b))=((a-(OfNat.ofNat b:Nat):Nat):Int):=(Int.ofNat_sub h).symm
theorem Eb{a b:Nat}(h:b<=a):((a:Int))-(b:Int)=((a-b:Nat):Int):=(Int.ofNat_sub h).symm
section
variable{m:FM}{n:Nat}
theorem eY{sz i b o len cap:Nat}(h:i<len):fU sz i (.slice (some ⟨b,o,none⟩) len cap)=some (.pointer (some ⟨b,o+i*sz,none⟩)):=by
 show cond (Nat.blt i len) _ none=_
 rw[dC h];rfl
theorem wV(a:Option Addr)(l c:Nat):jS false (.slice a l c)=some (.int .i64 (l:Int)):=rfl
theorem Ej(s:ByteArray):jS true (.string s)=some (.int .i64 (s.size:Int)):=rfl
theorem gJ(sz:Nat):shown m n sz (.slice none 0 0)=some ([],0):=rfl
theorem tL(sz c:Nat)(b o:Nat):shown m n sz (.slice (some ⟨b,o,none⟩) 0 c)=some ([],0):=rfl
theorem fZ{sz b o l c:Nat}(h:0<l):shown m n sz (.slice (some ⟨b,o,none⟩) l c)=oH sz o l b (fg m n b):=by
 show cond (Nat.beq l 0) _ _=_
 rw[qY (by omega)];rfl
theorem gd(sz o l b s:Nat)(c:List Value)(p q:Bool):oH sz o l b (some (.cells c s p q))=cond (Nat.beq s sz) (Option.rec (motive:=fun _=>Option (List Value×Nat)) none (fun x=>some (x,bit b)) (eO c o (l*sz))) (cond (Nat.beq s 0) (Option.rec (motive:=fun _=>Option (List Value×Nat)) none (fun x=>some (x,bit b)) (eO c o (l*sz))) none):=by
 show cond (szF s sz) _ none=_
 unfold szF
 cases Nat.beq s sz<;>cases Nat.beq s 0<;>rfl
theorem xC{α:Type}(f:α->Value)(xs:List α):oC (List.map f xs) xs.length=some (List.map f xs):=by rw[qi,if_pos (by simp),List.take_of_length_le (by simp)]
theorem fw{c:List Value}{k:Nat}(h:k=c.length):oC c k=some c:=by rw[qi,if_pos (by omega),List.take_of_length_le (by omega)]
theorem fF(sz bytes:Nat)(x y:Value)(a b:List Value×Nat):jq sz bytes m n x y (some a) (some b)=Da sz bytes m n a b x y:=rfl
theorem fy(sz bytes:Nat)(a b:List Value×Nat)(ax ay:Option Addr)(lx cx ly cy:Nat):Da sz bytes m n a b (.slice ax lx cx) (.slice ay ly cy) =
  cond (b.1.all one&&Nat.blt 0 sz&&Nat.blt 0 bytes&&Nat.ble ((lx+ly)*bytes) 140737488355328) (yW m n sz lx ly cx a.1 b.1 (Nat.lor a.2 b.2) ax) .no:=rfl
theorem iK{sz lx ly cx r:Nat}{a b:List Value}(h:0<ly):yW m n sz lx ly cx a b r none=.ok (.slice (some ⟨n,0,none⟩) (lx+ly) UNK) (AMem.put m n (some (.cells (a++b) sz true true))) (n+1) r (bit n):=by
 show cond (Nat.beq ly 0) _ _=_
 rw[qY (by omega)];rfl
theorem iJ(sz lx ly r bx ox:Nat)(a b:List Value):yW m n sz lx ly UNK a b r (some ⟨bx,ox,none⟩)=rq m n sz (lx+ly) (a++b) r ⟨bx,ox,none⟩ (fg m n bx):=rfl
theorem jz(sz len r bx ox:Nat)(c c0:List Value):rq m n sz len c r ⟨bx,ox,none⟩ (some (.cells c0 sz true true))=.ok (.slice (some ⟨n,0,none⟩) len UNK) (AMem.put (AMem.put m bx none) n (some (.cells c sz true true))) (n+1) r (Nat.lor (bit bx) (bit n)):=by
 show cond (AMem.lim m n&&Nat.beq sz sz) _ _=_
 rw[Nat.beq_refl];rfl
theorem ep{a b:Nat}(h:a<=b):Nat.ble a b=true:=Nat.ble_eq_true_of_le h
theorem Eg{sz bytes l:Nat}(z:List Value)(h:l*bytes<=281474976710656)(h2:l<=1099511627776):rX sz bytes z m n (some l) (some l)=.ok (.slice (some ⟨n,0,none⟩) l l) (AMem.put m n (some (.cells (mE z l) sz false true))) (n+1) 0 (bit n):=by
 show cond (Nat.ble l l&&Nat.ble (l*bytes) 281474976710656&&Nat.ble l 1099511627776) _ _=_
 rw[ep (Nat.le_refl l),ep h,ep h2];rfl
theorem zU(v:Value)(k:Nat):mE [v] k=List.replicate k v:=by
 rw[pO]
 induction k with
 |zero=>rfl
 |succ k ih=>rw[List.replicate_succ,List.flatten_cons,ih];rfl
theorem sX{c:List Value}{i:Nat}{x:Value}(h:i<c.length):setCells c i [x]=some (c.set i x):=by
 rw[eh,if_pos (by simp;omega),List.set_eq_take_append_cons_drop,if_pos h];simp
theorem nmul(a b:Nat):Nat.mul a b=a*b:=rfl
theorem nadd(a b:Nat):Nat.add a b=a+b:=rfl
end
abbrev ki:=Nat->Nat
def rF(M:FM)(n0 N:Nat)(t:Nat)(tag:ki)(v:Value)(xs:List Int):Prop:=
 (xs=[]/\v=.slice none 0 0)\/(xs≠[]/\∃b,v=.slice (some ⟨b,0,none⟩) xs.length UNK/\n0<=b/\b<N/\tag b=t/\M b=some (.cells (xs.map (Value.int .i64)) 1 true true))
theorem rF.frame{M M':FM}{n0 N N':Nat}{t:Nat}{tag tag':ki}{v:Value}{xs:List Int}(h:rF M n0 N t tag v xs)(hN:N<=N')(ht:∀b,n0<=b->b<N->tag b=t->tag' b=t/\M' b=M b):rF M' n0 N' t tag' v xs:=by
 rcases h with h|⟨h0,b,h1,h2,h3,h4,h5⟩
 ·exact .inl h
 ·obtain⟨k1,k2⟩:=ht b h2 h3 h4
  exact .inr ⟨h0,b,h1,h2,by omega,k1,k2.trans h5⟩
theorem rF.ints{M:FM}{n0 N:Nat}{t:Nat}{tag:ki}{v:Value}{xs:List Int}(h:rF M n0 N t tag v xs):pt M N v xs:=by
 rcases h with⟨rfl,rfl⟩|⟨h0,b,h1,h2,h3,h4,h5⟩
 ·exact .inl ⟨rfl,rfl⟩
 ·exact .inr <| .inl ⟨b,0,UNK,_,true,true,by rw[List.length_map];exact h1,h3,h5,fun i x hx=>by rw[Nat.zero_add];exact hx⟩
theorem rF.new{M:FM}{n0 N b t l:Nat}{tag:ki}{xs:List Int}(h0:xs≠[])(hl:l=xs.length)(h1:n0<=b)(h2:b<N)(h3:tag b=t)(h4:M b=some (.cells (xs.map (Value.int .i64)) 1 true true)):rF M n0 N t tag (.slice (some ⟨b,0,none⟩) l UNK) xs:=
 .inr ⟨h0,b,by rw[hl],h1,h2,h3,h4⟩
def jv(M:FM)(n0 N k:Nat)(tag:ki)(vs:List Value)(xss:List (List Int)):Prop:=
 vs.length=xss.length/\∀(i:Nat) v xs,vs[i]?=some v->xss[i]?=some xs->rF M n0 N (8*i+k) tag v xs
theorem jv.frame{M M':FM}{n0 N N' k:Nat}{tag tag':ki}{vs:List Value}{xss:List (List Int)}(h:jv M n0 N k tag vs xss)(hk:k<8)(hN:N<=N')(ht:∀b,n0<=b->b<N->tag b % 8=k->tag b<8*xss.length+k->tag' b=tag b/\M' b=M b):jv M' n0 N' k tag' vs xss:=
 ⟨h.1,fun i v xs hv hx=>(h.2 i v xs hv hx).frame hN fun b h1 h2 h3=>by
  have hi:=(List.getElem?_eq_some_iff.1 hx).1
  obtain⟨k1,k2⟩:=ht b h1 h2 (by omega) (by omega)
  exact⟨k1.trans h3,k2⟩⟩
theorem jv.push{M:FM}{n0 N k:Nat}{tag:ki}{vs:List Value}{xss:List (List Int)}{v:Value}{xs:List Int}(h:jv M n0 N k tag vs xss)(hv:rF M n0 N (8*xss.length+k) tag v xs):jv M n0 N k tag (vs++[v]) (xss++[xs]):=by
 refine⟨by simp[h.1],fun i v' xs' h1 h2=>?_⟩
 rcases Nat.lt_trichotomy i xss.length with hi|rfl|hi
 ·rw[List.getElem?_append_left (by rw[h.1];exact hi)]at h1
  rw[List.getElem?_append_left hi]at h2
  exact h.2 i _ _ h1 h2
 ·rw[List.getElem?_append_right (by rw[h.1];exact Nat.le_refl _),h.1]at h1
  rw[List.getElem?_append_right (Nat.le_refl _)]at h2
  simp at h1 h2
  subst h1;subst h2;exact hv
 ·rw[List.getElem?_eq_none (by simp;omega)]at h2;cases h2
theorem jv.set{M M':FM}{n0 N N' k d:Nat}{tag tag':ki}{vs:List Value}{xss:List (List Int)}{v:Value}{xs:List Int}(h:jv M n0 N k tag vs xss)(hk:k<8)(hN:N<=N')(ht:∀b,n0<=b->b<N->tag b % 8=k->tag b≠8*d+k->tag' b=tag b/\M' b=M b)(hv:rF M' n0 N' (8*d+k) tag' v xs):jv M' n0 N' k tag' (vs.set d v) (xss.set d xs):=by
 refine⟨by simp[h.1],fun i v' xs' h1 h2=>?_⟩
 by_cases hi:d=i
 ·subst hi
  have hl:d<(xss.set d xs).length:=(List.getElem?_eq_some_iff.1 h2).1
  rw[List.length_set]at hl
  rw[List.getElem?_set_self (by rw[h.1];exact hl)]at h1
  rw[List.getElem?_set_self hl]at h2
  injection h1 with h1;injection h2 with h2
  subst h1;subst h2;exact hv
 ·rw[List.getElem?_set_ne hi]at h1 h2
  exact(h.2 i v' xs' h1 h2).frame hN fun b h3 h4 h5=>by
   obtain⟨k1,k2⟩:=ht b h3 h4 (by omega) (by omega)
   exact⟨k1.trans h5,k2⟩
theorem jv.rows{M:FM}{n0 N k b cap:Nat}{tag:ki}{vs:List Value}{xss:List (List Int)}{opn wr:Bool}(h:jv M n0 N k tag vs xss)(hb:b<N)(hm:M b=some (.cells vs 1 opn wr)):Rows M N (.slice (some ⟨b,0,none⟩) xss.length cap) xss:=
 ⟨vs,.inr <| .inl ⟨b,0,cap,vs,opn,wr,by rw[h.1],hb,hm,fun i x hx=>by rw[Nat.zero_add];exact hx⟩,h.1,fun i x g hx hg=>(h.2 i x g hx hg).ints⟩
theorem jv.nil{M:FM}{n0 N k:Nat}{tag:ki}(D:Nat):jv M n0 N k tag (List.replicate D (.slice none 0 0)) (List.replicate D []):=
 ⟨by simp,fun i v xs hv hx=>by
  have h1:=List.mem_of_getElem? hv
  have h2:=List.mem_of_getElem? hx
  exact .inl ⟨List.eq_of_mem_replicate h2,List.eq_of_mem_replicate h1⟩⟩
theorem jv.empty{M:FM}{n0 N k:Nat}{tag:ki}:jv M n0 N k tag [] []:=⟨rfl,fun i v xs hv hx=>by simp at hv⟩
def SlT(M:FM)(n0 N:Nat)(t:Nat)(tag:ki)(v:Value)(vs:List Value):Prop:=
 (vs=[]/\v=.slice none 0 0)\/(vs≠[]/\∃b,v=.slice (some ⟨b,0,none⟩) vs.length UNK/\n0<=b/\b<N/\tag b=t/\M b=some (.cells vs 1 true true))
theorem rF.sl{M:FM}{n0 N:Nat}{t:Nat}{tag:ki}{v:Value}{xs:List Int}(h:rF M n0 N t tag v xs):SlT M n0 N t tag v (xs.map (Value.int .i64)):=by
 rcases h with⟨rfl,rfl⟩|⟨h0,b,h1,h2,h3,h4,h5⟩
 ·exact .inl ⟨rfl,rfl⟩
 ·exact .inr ⟨by simpa using h0,b,by rw[List.length_map];exact h1,h2,h3,h4,h5⟩
theorem SlT.ints{M:FM}{n0 N:Nat}{t:Nat}{tag:ki}{v:Value}{xs:List Int}(h:SlT M n0 N t tag v (xs.map (Value.int .i64))):rF M n0 N t tag v xs:=by
 rcases h with⟨h0,h1⟩|⟨h0,b,h1,h2,h3,h4,h5⟩
 ·exact .inl ⟨by simpa using h0,h1⟩
 ·exact .inr ⟨by simpa using h0,b,by rw[List.length_map]at h1;exact h1,h2,h3,h4,h5⟩
theorem SlT.frame{M M':FM}{n0 N N':Nat}{t:Nat}{tag tag':ki}{v:Value}{xs:List Value}(h:SlT M n0 N t tag v xs)(hN:N<=N')(ht:∀b,n0<=b->b<N->tag b=t->tag' b=t/\M' b=M b):SlT M' n0 N' t tag' v xs:=by
 rcases h with h|⟨h0,b,h1,h2,h3,h4,h5⟩
 ·exact .inl h
 ·obtain⟨k1,k2⟩:=ht b h2 h3 h4
  exact .inr ⟨h0,b,h1,h2,by omega,k1,k2.trans h5⟩
theorem SlT.bel{M:FM}{n0 N t:Nat}{tag:ki}{v:Value}{xs:List Value}(h:SlT M n0 N t tag v xs)(k:Nat)(hk:N<=k):et k v=true:=by
 rcases h with⟨_,rfl⟩|⟨_,b,rfl,_,hb,_⟩
 ·rfl
 ·exact dC (show b<k by omega)
theorem SlT.len{M:FM}{n0 N t:Nat}{tag:ki}{v:Value}{xs:List Value}(h:SlT M n0 N t tag v xs):jS false v=some (.int .i64 (xs.length:Int)):=by
 rcases h with⟨rfl,rfl⟩|⟨_,b,rfl,_⟩<;>rfl
theorem SlT.one{M:FM}{n0 N t:Nat}{tag:ki}{v:Value}{xs:List Value}(h:SlT M n0 N t tag v xs):Am.one v=true:=by
 rcases h with⟨rfl,rfl⟩|⟨_,b,rfl,_⟩<;>rfl
structure App(M:FM)(n0 N t:Nat)(tag:ki)(vs:List Value)(v':Value)(M':FM)(N' w:Nat):Prop where
 v:v'=.slice (some ⟨N,0,none⟩) vs.length UNK
 n:N'=N+1
 m:M' N=some (.cells vs 1 true true)
 fr:∀b,b≠N->tag b≠t->M' b=M b
 low:∀b,b<n0->M' b=M b
 w:w=bit N\/∃b,w=Nat.lor (bit b) (bit N)/\tag b=t/\n0<=b/\b<N
theorem App.sl{M:FM}{n0 N t:Nat}{tag:ki}{vs:List Value}{v':Value}{M':FM}{N' w:Nat}(h:App M n0 N t tag vs v' M' N' w)(hne:vs≠[])(hn:n0<=N){tag':ki}(ht:tag' N=t):SlT M' n0 N' t tag' v' vs:=
 .inr ⟨hne,N,h.v,hn,by rw[h.n];omega,ht,h.m⟩
theorem SlT.rows{M:FM}{n0 N t k:Nat}{tag:ki}{v:Value}{vs:List Value}{xss:List (List Int)}(h:SlT M n0 N t tag v vs)(hr:jv M n0 N k tag vs xss):Rows M N v xss:=by
 refine⟨vs,?_,hr.1,fun i x g hx hg=>(hr.2 i x g hx hg).ints⟩
 rcases h with⟨rfl,rfl⟩|⟨_,b,rfl,_,hb,_,hm⟩
 ·exact .inl ⟨rfl,rfl⟩
 ·exact .inr <| .inl ⟨b,0,UNK,vs,true,true,rfl,hb,hm,fun i x hx=>by rw[Nat.zero_add];exact hx⟩
theorem WPs:type_of% (And.intro (And.intro (And.intro (And.intro (And.intro (And.intro (And.intro @Ni (And.intro @En @HW)) (And.intro (And.intro @k_sq @xd) (And.intro @AH @k_bl))) (And.intro (And.intro (And.intro @xf @AK) (And.intro @k_ps @xe)) (And.intro (And.intro @AJ @Nj) (And.intro @HX @IJ)))) (And.intro (And.intro (And.intro @EK (And.intro @Gz @MH)) (And.intro (And.intro @GA @MF) (And.intro @MJ @HV))) (And.intro (And.intro (And.intro @wG @zW) (And.intro @MZ @q_op)) (And.intro (And.intro @Na @MY) (And.intro @Hj @Em))))) (And.intro (And.intro (And.intro (And.intro @A7 (And.intro @Hp @My)) (And.intro (And.intro @Gt @zp) (And.intro @vV @MC))) (And.intro (And.intro (And.intro @y_op @MD) (And.intro @Mz @Gu)) (And.intro (And.intro @AF @DV) (And.intro @xO @vv)))) (And.intro (And.intro (And.intro (And.intro @zH @xI) (And.intro @vh @sH)) (And.intro (And.intro @vg @sF) (And.intro @qp @sI))) (And.intro (And.intro (And.intro @dC @Ak) (And.intro @DH @zT)) (And.intro (And.intro @Hf @wE) (And.intro @rN @He)))))) (And.intro (And.intro (And.intro (And.intro (And.intro @DI (And.intro @zS @Hc)) (And.intro (And.intro @Ha @G') (And.intro @Et @Az))) (And.intro (And.intro (And.intro @wT @gr) (And.intro @Ek @ev_v)) (And.intro (And.intro @ev_c @HN) (And.intro @HO @Ew)))) (And.intro (And.intro (And.intro @A3 (And.intro @MM @G2)) (And.intro (And.intro @MV @MK) (And.intro @G6 @MT))) (And.intro (And.intro (And.intro @MR @MS) (And.intro @DA @G5)) (And.intro (And.intro @Dz @MO) (And.intro @s_mx @MQ))))) (And.intro (And.intro (And.intro (And.intro @MP (And.intro @s_st @G7)) (And.intro (And.intro @ML @MU) (And.intro @MN @G3))) (And.intro (And.intro (And.intro @MW @EP) (And.intro @Nw @Nl)) (And.intro (And.intro @Np @DL) (And.intro @DK @Nv)))) (And.intro (And.intro (And.intro (And.intro @Nn @Nq) (And.intro @Ns @Nr)) (And.intro (And.intro @Nu @DT) (And.intro @zr @rJ))) (And.intro (And.intro (And.intro @Dm @H8) (And.intro @Al @vZ)) (And.intro (And.intro @An @ur) (And.intro @wM @wN))))))) (And.intro (And.intro (And.intro (And.intro (And.intro (And.intro @um (And.intro @H4 @Ea)) (And.intro (And.intro @DQ @Dt) (And.intro @xE @xD))) (And.intro (And.intro (And.intro @uV @xA) (And.intro @sC @xz)) (And.intro (And.intro @eS @de) (And.intro @dc @AR)))) (And.intro (And.intro (And.intro @Nh (And.intro @Ng @mG)) (And.intro (And.intro @Dl @IG) (And.intro @II @eU))) (And.intro (And.intro (And.intro @EC @ED) (And.intro @ul @EU)) (And.intro (And.intro @st_c @GK) (And.intro @DN @sc_z))))) (And.intro (And.intro (And.intro (And.intro @sc_s (And.intro @xu @uR)) (And.intro (And.intro @AA @wU) (And.intro @D4 @Aj))) (And.intro (And.intro (And.intro @D3 @wJ) (And.intro @D2 @dH)) (And.intro (And.intro @Ab @Ac) (And.intro @Ad @Ae)))) (And.intro (And.intro (And.intro (And.intro @H9 @H') (And.intro @Hg @Hh)) (And.intro (And.intro @Ee @AE) (And.intro @Aw @wY))) (And.intro (And.intro (And.intro @lM @lX) (And.intro @dZ @dx)) (And.intro (And.intro @Ny @Nz) (And.intro @wrap_i64 @Bool.not_true)))))) (And.intro (And.intro (And.intro (And.intro (And.intro @Bool.not_false (And.intro @Bool.and_self @Bool.and_true)) (And.intro (And.intro @Bool.true_and @Bool.or_true) (And.intro @Bool.true_or @Bool.or_false))) (And.intro (And.intro (And.intro @Bool.false_or @Nat.beq_refl) (And.intro @Nat.zero_add @Nat.add_zero)) (And.intro (And.intro @qY @vi) (And.intro @vl @sK)))) (And.intro (And.intro (And.intro (And.intro @sJ @vk) (And.intro @vj @vf)) (And.intro (And.intro @xJ @xK) (And.intro @jg @dE))) (And.intro (And.intro (And.intro @eL @and_true) (And.intro @true_and @AX.ret.injEq)) (And.intro (And.intro @Value.bool.injEq @Value.int.injEq) (And.intro @Nat.add_assoc @zC))))) (And.intro (And.intro (And.intro (And.intro @zA (And.intro @zD @zB)) (And.intro (And.intro @Ed @Ec) (And.intro @rW @rV))) (And.intro (And.intro (And.intro @rU @Eb) (And.intro @rT @eY)) (And.intro (And.intro @wV @Ej) (And.intro @gJ @tL)))) (And.intro (And.intro (And.intro (And.intro @fZ @gd) (And.intro @xC @fF)) (And.intro (And.intro @fy @iK) (And.intro @iJ @jz))) (And.intro (And.intro (And.intro @ep @Eg) (And.intro @zU @nmul)) (And.intro (And.intro @nadd @Nat.mul_one) (And.intro @decide_true @decide_false)))))))):=
 (And.intro (And.intro (And.intro (And.intro (And.intro (And.intro (And.intro @Ni (And.intro @En @HW)) (And.intro (And.intro @k_sq @xd) (And.intro @AH @k_bl))) (And.intro (And.intro (And.intro @xf @AK) (And.intro @k_ps @xe)) (And.intro (And.intro @AJ @Nj) (And.intro @HX @IJ)))) (And.intro (And.intro (And.intro @EK (And.intro @Gz @MH)) (And.intro (And.intro @GA @MF) (And.intro @MJ @HV))) (And.intro (And.intro (And.intro @wG @zW) (And.intro @MZ @q_op)) (And.intro (And.intro @Na @MY) (And.intro @Hj @Em))))) (And.intro (And.intro (And.intro (And.intro @A7 (And.intro @Hp @My)) (And.intro (And.intro @Gt @zp) (And.intro @vV @MC))) (And.intro (And.intro (And.intro @y_op @MD) (And.intro @Mz @Gu)) (And.intro (And.intro @AF @DV) (And.intro @xO @vv)))) (And.intro (And.intro (And.intro (And.intro @zH @xI) (And.intro @vh @sH)) (And.intro (And.intro @vg @sF) (And.intro @qp @sI))) (And.intro (And.intro (And.intro @dC @Ak) (And.intro @DH @zT)) (And.intro (And.intro @Hf @wE) (And.intro @rN @He)))))) (And.intro (And.intro (And.intro (And.intro (And.intro @DI (And.intro @zS @Hc)) (And.intro (And.intro @Ha @G') (And.intro @Et @Az))) (And.intro (And.intro (And.intro @wT @gr) (And.intro @Ek @ev_v)) (And.intro (And.intro @ev_c @HN) (And.intro @HO @Ew)))) (And.intro (And.intro (And.intro @A3 (And.intro @MM @G2)) (And.intro (And.intro @MV @MK) (And.intro @G6 @MT))) (And.intro (And.intro (And.intro @MR @MS) (And.intro @DA @G5)) (And.intro (And.intro @Dz @MO) (And.intro @s_mx @MQ))))) (And.intro (And.intro (And.intro (And.intro @MP (And.intro @s_st @G7)) (And.intro (And.intro @ML @MU) (And.intro @MN @G3))) (And.intro (And.intro (And.intro @MW @EP) (And.intro @Nw @Nl)) (And.intro (And.intro @Np @DL) (And.intro @DK @Nv)))) (And.intro (And.intro (And.intro (And.intro @Nn @Nq) (And.intro @Ns @Nr)) (And.intro (And.intro @Nu @DT) (And.intro @zr @rJ))) (And.intro (And.intro (And.intro @Dm @H8) (And.intro @Al @vZ)) (And.intro (And.intro @An @ur) (And.intro @wM @wN))))))) (And.intro (And.intro (And.intro (And.intro (And.intro (And.intro @um (And.intro @H4 @Ea)) (And.intro (And.intro @DQ @Dt) (And.intro @xE @xD))) (And.intro (And.intro (And.intro @uV @xA) (And.intro @sC @xz)) (And.intro (And.intro @eS @de) (And.intro @dc @AR)))) (And.intro (And.intro (And.intro @Nh (And.intro @Ng @mG)) (And.intro (And.intro @Dl @IG) (And.intro @II @eU))) (And.intro (And.intro (And.intro @EC @ED) (And.intro @ul @EU)) (And.intro (And.intro @st_c @GK) (And.intro @DN @sc_z))))) (And.intro (And.intro (And.intro (And.intro @sc_s (And.intro @xu @uR)) (And.intro (And.intro @AA @wU) (And.intro @D4 @Aj))) (And.intro (And.intro (And.intro @D3 @wJ) (And.intro @D2 @dH)) (And.intro (And.intro @Ab @Ac) (And.intro @Ad @Ae)))) (And.intro (And.intro (And.intro (And.intro @H9 @H') (And.intro @Hg @Hh)) (And.intro (And.intro @Ee @AE) (And.intro @Aw @wY))) (And.intro (And.intro (And.intro @lM @lX) (And.intro @dZ @dx)) (And.intro (And.intro @Ny @Nz) (And.intro @wrap_i64 @Bool.not_true)))))) (And.intro (And.intro (And.intro (And.intro (And.intro @Bool.not_false (And.intro @Bool.and_self @Bool.and_true)) (And.intro (And.intro @Bool.true_and @Bool.or_true) (And.intro @Bool.true_or @Bool.or_false))) (And.intro (And.intro (And.intro @Bool.false_or @Nat.beq_refl) (And.intro @Nat.zero_add @Nat.add_zero)) (And.intro (And.intro @qY @vi) (And.intro @vl @sK)))) (And.intro (And.intro (And.intro (And.intro @sJ @vk) (And.intro @vj @vf)) (And.intro (And.intro @xJ @xK) (And.intro @jg @dE))) (And.intro (And.intro (And.intro @eL @and_true) (And.intro @true_and @AX.ret.injEq)) (And.intro (And.intro @Value.bool.injEq @Value.int.injEq) (And.intro @Nat.add_assoc @zC))))) (And.intro (And.intro (And.intro (And.intro @zA (And.intro @zD @zB)) (And.intro (And.intro @Ed @Ec) (And.intro @rW @rV))) (And.intro (And.intro (And.intro @rU @Eb) (And.intro @rT @eY)) (And.intro (And.intro @wV @Ej) (And.intro @gJ @tL)))) (And.intro (And.intro (And.intro (And.intro @fZ @gd) (And.intro @xC @fF)) (And.intro (And.intro @fy @iK) (And.intro @iJ @jz))) (And.intro (And.intro (And.intro @ep @Eg) (And.intro @zU @nmul)) (And.intro (And.intro @nadd @Nat.mul_one) (And.intro @decide_true @decide_false))))))))
theorem W2:type_of% (And.intro WPs (And.intro (And.intro @List.all_cons.{0} (And.intro @List.all_nil.{0} (And.intro @List.cons_append.{0} @List.nil_append.{0}))) (And.intro (And.intro @cond_true.{1} @cond_false.{1}) (And.intro @eq_self.{1} (And.intro @List.map_cons.{0,0} @List.map_nil.{0,0}))))):=
 (And.intro WPs (And.intro (And.intro @List.all_cons.{0} (And.intro @List.all_nil.{0} (And.intro @List.cons_append.{0} @List.nil_append.{0}))) (And.intro (And.intro @cond_true.{1} @cond_false.{1}) (And.intro @eq_self.{1} (And.intro @List.map_cons.{0,0} @List.map_nil.{0,0})))))
def SlZ(sz:Nat)(M:FM)(n0 N:Nat)(v:Value)(len:Nat)(cs:List Value):Prop:=
 (len=0/\cs=[]/\v=.slice none 0 0)\/(0<len/\cs.length=len*sz/\∃b,v=.slice (some ⟨b,0,none⟩) len UNK/\n0<=b/\b<N/\M b=some (.cells cs sz true true))
theorem SlZ.frame{sz:Nat}{M M':FM}{n0 N N':Nat}{v:Value}{len:Nat}{cs:List Value}(h:SlZ sz M n0 N v len cs)(hN:N<=N')(ht:∀b,n0<=b->b<N->M' b=M b):SlZ sz M' n0 N' v len cs:=by
 rcases h with h|⟨h0,hl,b,h1,h2,h3,h4⟩
 ·exact .inl h
 ·exact .inr ⟨h0,hl,b,h1,h2,by omega,(ht b h2 h3).trans h4⟩
theorem SlZ.low{sz:Nat}{M:FM}{n0 n1 N:Nat}{v:Value}{len:Nat}{cs:List Value}(h:SlZ sz M n0 N v len cs)(hn:n1<=n0):SlZ sz M n1 N v len cs:=by
 rcases h with h|⟨h0,hl,b,h1,h2,h3,h4⟩
 ·exact .inl h
 ·exact .inr ⟨h0,hl,b,h1,by omega,h3,h4⟩
theorem SlZ.len{sz:Nat}{M:FM}{n0 N:Nat}{v:Value}{len:Nat}{cs:List Value}(h:SlZ sz M n0 N v len cs):jS false v=some (.int .i64 (len:Int)):=by
 rcases h with⟨rfl,rfl,rfl⟩|⟨_,_,b,rfl,_⟩<;>rfl
theorem SlZ.bel{sz:Nat}{M:FM}{n0 N:Nat}{v:Value}{len:Nat}{cs:List Value}(h:SlZ sz M n0 N v len cs)(k:Nat)(hk:N<=k):et k v=true:=by
 rcases h with⟨_,_,rfl⟩|⟨_,_,b,rfl,_,hb,_⟩
 ·rfl
 ·exact dC (show b<k by omega)
theorem SlZ.one{sz:Nat}{M:FM}{n0 N:Nat}{v:Value}{len:Nat}{cs:List Value}(h:SlZ sz M n0 N v len cs):Am.one v=true:=by
 rcases h with⟨_,_,rfl⟩|⟨_,_,b,rfl,_⟩<;>rfl
theorem SlZ.at{sz:Nat}{M:FM}{n0 N:Nat}{v:Value}{len:Nat}{cs:List Value}(h:SlZ sz M n0 N v len cs){i:Nat}(hi:i<len):∃b,fU sz i v=some (.pointer (some ⟨b,i*sz,none⟩))/\n0<=b/\b<N/\M b=some (.cells cs sz true true)/\cs.length=len*sz:=by
 rcases h with⟨rfl,_,_⟩|⟨_,hl,b,rfl,h1,h2,h3⟩
 ·omega
 ·exact⟨b,by rw[eY hi,Nat.zero_add],h1,h2,h3,hl⟩
structure AppZ(sz:Nat)(M:FM)(n0 N:Nat)(len:Nat)(cs:List Value)(v':Value)(M':FM)(N' w:Nat):Prop where
 v:v'=.slice (some ⟨N,0,none⟩) len UNK
 n:N'=N+1
 s:SlZ sz M' n0 N' v' len cs
 low:∀b,b<n0->M' b=M b
 w:∀j,j<=n0->Nat.mod w (bit j)=0
theorem ER{sz:Nat}{M:FM}{n0 N bytes:Nat}{v:Value}{len:Nat}{cs zs:List Value}(h:SlZ sz M n0 N v len cs)(ya:Option Addr)(yc ry:Nat)(h0:n0<=N)(hsz:0<sz)(hzl:zs.length=sz)(hz:zs.all Am.one=true)(hby:0<bytes)(hl:(len+1)*bytes<=140737488355328):
  Rt (jq sz bytes M N v (.slice ya 1 yc) (shown M N sz v) (some (zs,ry))) fun v' M' N' w=>AppZ sz M n0 N (len+1) (cs++zs) v' M' N' w:=by
 rcases h with⟨rfl,rfl,rfl⟩|⟨hp,hcl,b,rfl,hb,hbN,hM⟩
 ·rw[gJ,fF,fy]
  have hl':(0+1)*bytes<=140737488355328:=by simpa using hl
  rw[show(zs,ry).1.all Am.one=true from hz,dC hsz,dC hby,ep hl',iK (by omega)]
  exact⟨rfl,rfl,.inr ⟨by omega,by simp[hzl],N,rfl,h0,by omega,de _ _ _⟩,fun b hb=>dc _ _ _ _ (by omega),fun j hj=>dE (by omega)⟩
 ·rw[fZ hp,eS hbN,hM,gd,Nat.beq_refl,eU,gr,fw hcl.symm]
  show Rt (jq sz bytes M N _ _ (some (cs,bit b)) _) _
  rw[fF,fy]
  rw[show(zs,ry).1.all Am.one=true from hz,dC hsz,dC hby,ep hl,iJ,eS hbN,hM,jz]
  exact⟨rfl,rfl,.inr ⟨by omega,by rw[List.length_append,hcl,hzl,Nat.add_mul,Nat.one_mul],N,rfl,h0,by omega,de _ _ _⟩,fun k hk=>by rw[dc _ _ _ _ (by omega),dc _ _ _ _ (by omega)],fun j hj=>by rw[eL];exact⟨dE (by omega),dE (by omega)⟩⟩
theorem sG(n f:Nat)(a c:List Value):et n (.func (.func f) a.toArray c.toArray)=(a.all (jn n)&&c.all (jn n)):=rfl
theorem pc(n b o:Nat):jn n (.pointer (some ⟨b,o,none⟩))=Nat.blt b n:=rfl
section
variable{P:Program}{E:Nat->Option AFn}{Y:Nat->List Value->FM->Nat->OR FM}{m:FM}{n:Nat}
theorem uC{f:Nat}{fn:AFn}{args:List Value}{R:Value->FM->Nat->Prop}(hE:E f=some fn)(ha:gx args=fn.na)(h:∀Q:AX->List Value->FM->Nat->Nat->Prop,(∀v e m' n' w,n<=n'->(∀b,b<n->m' b=m b)->Nat.mod w (bit n)=0->(du v=false->R v m' n')->(du v=true->R v m n)->Q (.ret v) e m' n' w)->Wr P E Y [] 0 (dt P E Y fn.code args m n) Q):Rt (df P E Y f args m n) fun v m' n' w=>n<=n'/\(∀b,b<n->m' b=m b)/\(∀j,j<=n->Nat.mod w (bit j)=0)/\R v m' n':=by
 rw[gZ hE ha]
 obtain⟨X,e',m',n',r,w,hx,v,rfl,h1,h2,h3,h4,h5⟩:=fX (gR (h (fun X _ m' n' w=>∃v,X=.ret v/\n<=n'/\(∀b,b<n->m' b=m b)/\Nat.mod w (bit n)=0/\(du v=false->R v m' n')/\(du v=true->R v m n)) fun v _ m' n' w k1 k2 k3 k4 k5=>⟨v,rfl,k1,k2,k3,k4,k5⟩))
 rw[hx,iu]
 cases hv:du v
 ·rw[nj hv]
  exact⟨h1,h2,fun j hj=>AQ h3 hj,h4 hv⟩
 ·rw[rY hv h3]
  exact⟨Nat.le_refl _,fun _ _=>rfl,fun j _=>Nat.zero_mod _,h5 hv⟩
end
section
variable{P:Program}{E:Nat->Option AFn}{Y:Nat->List Value->FM->Nat->OR FM}
def Kont(P:Program)(E:Nat->Option AFn)(Y:Nat->List Value->FM->Nat->OR FM)(K:List Frm)(w0:Nat)(Q:AX->List Value->FM->Nat->Nat->Prop):AX->List Value->FM->Nat->Nat->Prop:=fun X e m n w=>∀r,Wr P E Y K w0 (.ok X e m n r w) Q
theorem dS{K:List Frm}{w0:Nat}{x:CR FM}{Q:AX->List Value->FM->Nat->Nat->Prop}(h:Gv x fun X e m n w=>Kont P E Y K w0 Q X e m n (Nat.lor 0 w)):Wr P E Y K w0 x Q:=
 fL (h.mono fun X e m n w hq r=>by have:=hq r;rwa [dx]at this)
end
def zk(M:FM)(n0 N:Nat)(v:Value)(xs:List Int):Prop:=SlZ 1 M n0 N v xs.length (xs.map (Value.int .i64))
theorem zk.nil(M:FM)(n0 N:Nat):zk M n0 N (.slice none 0 0) []:=.inl ⟨rfl,rfl,rfl⟩
theorem zk.ints{M:FM}{n0 N:Nat}{v:Value}{xs:List Int}(h:zk M n0 N v xs):pt M N v xs:=by
 rcases h with⟨h0,h1,rfl⟩|⟨h0,hl,b,rfl,h1,h2,h3⟩
 ·exact .inl ⟨rfl,h1⟩
 ·exact .inr <| .inl ⟨b,0,UNK,_,true,true,by rw[List.length_map],h2,h3,fun i x hx=>by rw[Nat.zero_add];exact hx⟩
theorem zk.frame{M M':FM}{n0 N N':Nat}{v:Value}{xs:List Int}(h:zk M n0 N v xs)(hN:N<=N')(ht:∀b,n0<=b->b<N->M' b=M b):zk M' n0 N' v xs:=SlZ.frame h hN ht
theorem zk.free{M m:FM}{n0 N n:Nat}{v:Value}{xs:List Int}(h:zk M n0 N v xs)(hv:du v=true):pt m n v xs:=by
 rcases h with⟨h0,h1,rfl⟩|⟨h0,hl,b,rfl,h1,h2,h3⟩
 ·exact .inl ⟨rfl,h1⟩
 ·cases hv
end Go.Am
namespace Go.Am.CD
set_option maxRecDepth 100000
open Go Go.Am
variable{Y:Nat->List Value->FM->Nat->OR FM}
variable{z lo hi:Int}
def gV:Value:=.agg #[.int .i64 60,.int .i64 5,.int .i64 2,.int .i64 3,.int .i64 1]
theorem rI(m:FM)(n:Nat)(z lo hi:Int):Pure (df PG EL Y 102 [.int .i64 z,.int .i64 lo,.int .i64 hi] m n) m n (.bool (decide (lo<=z/\z<=hi))):=by
 refine dz e102 rfl rfl ?_
 simp only[Kd]
 by_cases h1:lo<=z
 ·by_cases h2:z<=hi
  ·rw[decide_eq_true (And.intro h1 h2)]
   simp -implicitDefEqProofs (disch:=omega)only[W2,dd,Nat.testBit,Nat.reduceAdd,Nat.reduceShiftRight,Nat.reduceAnd,Nat.reduceBNe,Nat.reduceMul]
  ·rw[decide_eq_false (fun h=>h2 h.2)]
   simp -implicitDefEqProofs (disch:=omega)only[W2,dd,Nat.testBit,Nat.reduceAdd,Nat.reduceShiftRight,Nat.reduceAnd,Nat.reduceBNe,Nat.reduceMul]
 ·rw[decide_eq_false (fun h=>h1 h.1)]
  simp -implicitDefEqProofs (disch:=omega)only[W2,dd,Nat.testBit,Nat.reduceAdd,Nat.reduceShiftRight,Nat.reduceAnd,Nat.reduceBNe,Nat.reduceMul]
theorem iy(m:FM)(n:Nat)(h:lo<=z/\z<=hi):Pure (df PG EL Y 102 [.int .i64 z,.int .i64 lo,.int .i64 hi] m n) m n (.bool true):=by
 have:=rI (Y:=Y) m n z lo hi
 rw[decide_eq_true h]at this
 exact this
theorem Gy(m:FM)(n:Nat)(h:¬(lo<=z/\z<=hi)):Pure (df PG EL Y 102 [.int .i64 z,.int .i64 lo,.int .i64 hi] m n) m n (.bool false):=by
 have:=rI (Y:=Y) m n z lo hi
 rw[decide_eq_false h]at this
 exact this
theorem ix(m:FM)(n:Nat):Pure (df PG EL Y 54 [gV] m n) m n (.bool true):=by
 refine dz e54 rfl rfl ?_
 simp only[Pm,gV]
 simp -implicitDefEqProofs (disch:=omega)only[W2,dd,Nat.testBit,Nat.reduceAdd,Nat.reduceShiftRight,Nat.reduceAnd,Nat.reduceBNe,Nat.reduceMul]
 refine di (iy _ _ (by omega)) fun r1=>?_
 simp -implicitDefEqProofs (disch:=omega)only[W2,dd,Nat.testBit,Nat.reduceAdd,Nat.reduceShiftRight,Nat.reduceAnd,Nat.reduceBNe,Nat.reduceMul]
 refine di (iy _ _ (by omega)) fun r2=>?_
 simp -implicitDefEqProofs (disch:=omega)only[W2,dd,Nat.testBit,Nat.reduceAdd,Nat.reduceShiftRight,Nat.reduceAnd,Nat.reduceBNe,Nat.reduceMul]
 refine di (iy _ _ (by omega)) fun r3=>?_
 simp -implicitDefEqProofs (disch:=omega)only[W2,dd,Nat.testBit,Nat.reduceAdd,Nat.reduceShiftRight,Nat.reduceAnd,Nat.reduceBNe,Nat.reduceMul]
 refine di (iy _ _ (by omega)) fun r4=>?_
 simp -implicitDefEqProofs (disch:=omega)only[W2,dd,Nat.testBit,Nat.reduceAdd,Nat.reduceShiftRight,Nat.reduceAnd,Nat.reduceBNe,Nat.reduceMul]
 refine di (iy _ _ (by omega)) fun r5=>?_
 simp -implicitDefEqProofs (disch:=omega)only[W2,dd,Nat.testBit,Nat.reduceAdd,Nat.reduceShiftRight,Nat.reduceAnd,Nat.reduceBNe,Nat.reduceMul]
theorem hH(m:FM)(n:Nat):Pure (df PG EL Y 57 [gV] m n) m n (.int .i64 6):=by
 refine dz e57 rfl rfl ?_
 simp only[Pj,gV]
 simp -implicitDefEqProofs (disch:=omega)only[W2,dd,Nat.testBit,Nat.reduceAdd,Nat.reduceShiftRight,Nat.reduceAnd,Nat.reduceBNe,Nat.reduceMul]
 refine di (ix _ _) fun r1=>?_
 simp -implicitDefEqProofs (disch:=omega)only[W2,dd,Nat.testBit,Nat.reduceAdd,Nat.reduceShiftRight,Nat.reduceAnd,Nat.reduceBNe,Nat.reduceMul]
 rfl
theorem jE(m:FM)(n:Nat):Pure (df PG EL Y 38 [gV] m n) m n (.int .i64 90):=by
 refine dz e38 rfl rfl ?_
 simp only[Py,gV]
 simp -implicitDefEqProofs (disch:=omega)only[W2,dd,Nat.testBit,Nat.reduceAdd,Nat.reduceShiftRight,Nat.reduceAnd,Nat.reduceBNe,Nat.reduceMul]
 refine di (ix _ _) fun r1=>?_
 simp -implicitDefEqProofs (disch:=omega)only[W2,dd,Nat.testBit,Nat.reduceAdd,Nat.reduceShiftRight,Nat.reduceAnd,Nat.reduceBNe,Nat.reduceMul]
 refine dV (hH _ _) fun r2=>?_
 simp -implicitDefEqProofs (disch:=omega)only[W2,dd,Nat.testBit,Nat.reduceAdd,Nat.reduceShiftRight,Nat.reduceAnd,Nat.reduceBNe,Nat.reduceMul]
 rfl
theorem yY(m:FM)(n b:Nat)(hb:b<5):Pure (df PG EL Y 148 [gV,.int .i64 (b:Int),.int .i64 0,.int .i64 0] m n) m n (.tuple #[.int .i64 ((60+b*6:Nat):Int),.int .i64 0]):=by
 refine dz e148 rfl rfl ?_
 simp only[JF,gV]
 simp -implicitDefEqProofs (disch:=omega)only[W2,dd,Nat.testBit,Nat.reduceAdd,Nat.reduceShiftRight,Nat.reduceAnd,Nat.reduceBNe,Nat.reduceMul]
 refine di (ix _ _) fun r1=>?_
 simp -implicitDefEqProofs (disch:=omega)only[W2,dd,Nat.testBit,Nat.reduceAdd,Nat.reduceShiftRight,Nat.reduceAnd,Nat.reduceBNe,Nat.reduceMul]
 refine di (iy _ _ (by omega)) fun r2=>?_
 simp -implicitDefEqProofs (disch:=omega)only[W2,dd,Nat.testBit,Nat.reduceAdd,Nat.reduceShiftRight,Nat.reduceAnd,Nat.reduceBNe,Nat.reduceMul]
 refine di (iy _ _ (by omega)) fun r3=>?_
 simp -implicitDefEqProofs (disch:=omega)only[W2,dd,Nat.testBit,Nat.reduceAdd,Nat.reduceShiftRight,Nat.reduceAnd,Nat.reduceBNe,Nat.reduceMul]
 refine di (iy _ _ (by omega)) fun r4=>?_
 simp -implicitDefEqProofs (disch:=omega)only[W2,dd,Nat.testBit,Nat.reduceAdd,Nat.reduceShiftRight,Nat.reduceAnd,Nat.reduceBNe,Nat.reduceMul]
 rw[Nat.mul_assoc]
theorem Ax(m:FM)(n a:Nat)(ha:60<=a)(hz:a<90):
  Pure (df PG EL Y 225 [gV,.int .i64 (a:Int)] m n) m n (.tuple #[.int .i64 (((a-60) / 3 / 2:Nat):Int),.int .i64 (((a-60) / 3 % 2:Nat):Int),.int .i64 (((a-60) % 3:Nat):Int),.int .i64 0]):=by
 refine dz e225 rfl rfl ?_
 simp only[E0,gV]
 simp -implicitDefEqProofs (disch:=omega)only[W2,dd,Nat.testBit,Nat.reduceAdd,Nat.reduceShiftRight,Nat.reduceAnd,Nat.reduceBNe,Nat.reduceMul]
 refine di (ix _ _) fun r1=>?_
 simp -implicitDefEqProofs (disch:=omega)only[W2,dd,Nat.testBit,Nat.reduceAdd,Nat.reduceShiftRight,Nat.reduceAnd,Nat.reduceBNe,Nat.reduceMul]
 refine dV (jE _ _) fun r2=>?_
 simp -implicitDefEqProofs (disch:=omega)only[W2,dd,Nat.testBit,Nat.reduceAdd,Nat.reduceShiftRight,Nat.reduceAnd,Nat.reduceBNe,Nat.reduceMul]
 refine dV (iy _ _ (by omega)) fun r3=>?_
 simp -implicitDefEqProofs (disch:=omega)only[W2,dd,Nat.testBit,Nat.reduceAdd,Nat.reduceShiftRight,Nat.reduceAnd,Nat.reduceBNe,Nat.reduceMul]
theorem Ay(m:FM)(n a:Nat)(ha:a<60):
  Pure (df PG EL Y 225 [gV,.int .i64 (a:Int)] m n) m n (.tuple #[.int .i64 0,.int .i64 0,.int .i64 0,.int .i64 2]):=by
 refine dz e225 rfl rfl ?_
 simp only[E0,gV]
 simp -implicitDefEqProofs (disch:=omega)only[W2,dd,Nat.testBit,Nat.reduceAdd,Nat.reduceShiftRight,Nat.reduceAnd,Nat.reduceBNe,Nat.reduceMul]
 refine di (ix _ _) fun r1=>?_
 simp -implicitDefEqProofs (disch:=omega)only[W2,dd,Nat.testBit,Nat.reduceAdd,Nat.reduceShiftRight,Nat.reduceAnd,Nat.reduceBNe,Nat.reduceMul]
 refine dV (jE _ _) fun r2=>?_
 simp -implicitDefEqProofs (disch:=omega)only[W2,dd,Nat.testBit,Nat.reduceAdd,Nat.reduceShiftRight,Nat.reduceAnd,Nat.reduceBNe,Nat.reduceMul]
 refine dV (Gy _ _ (by omega)) fun r3=>?_
 simp -implicitDefEqProofs (disch:=omega)only[W2,dd,Nat.testBit,Nat.reduceAdd,Nat.reduceShiftRight,Nat.reduceAnd,Nat.reduceBNe,Nat.reduceMul]
def gp(a:Nat):List Nat:=if 60<=a/\(a-60) / 3 % 2=0 then[a+3]else[]
def ef(l:List Nat):List Value:=l.map fun(x:Nat)=>Value.int .i64 (x:Int)
theorem I3{M:FM}{n0 N:Nat}{v:Value}{len:Nat}{cs:List Value}(h:SlZ 1 M n0 N v len cs)(z:Value)(hz:Am.one z=true)(ya:Option Addr)(yc ry:Nat)(h0:n0<=N)(hl:len<=1000000):
  Rt (jq 1 8 M N v (.slice ya 1 yc) (shown M N 1 v) (some ([z],ry))) fun v' M' N' w=>AppZ 1 M n0 N (len+1) (cs++[z]) v' M' N' w:=by
 rcases h with⟨rfl,rfl,rfl⟩|⟨hp,hcl,b,rfl,hb,hbN,hM⟩
 ·rw[gJ,fF,fy]
  rw[show([z],ry).1.all Am.one=true by simp[hz],dC (show 0<1 by omega),dC (show 0<8 by omega),ep (show(0+1)*8<=140737488355328 by omega),iK (by omega)]
  exact⟨rfl,rfl,.inr ⟨by omega,by simp,N,rfl,h0,by omega,de _ _ _⟩,fun b hb=>dc _ _ _ _ (by omega),fun j hj=>dE (by omega)⟩
 ·rw[fZ hp,eS hbN,hM,gd,Nat.beq_refl,eU,gr,fw hcl.symm]
  show Rt (jq 1 8 M N _ _ (some (cs,bit b)) _) _
  rw[fF,fy]
  rw[show([z],ry).1.all Am.one=true by simp[hz],dC (show 0<1 by omega),dC (show 0<8 by omega),ep (show(len+1)*8<=140737488355328 by omega),iJ,eS hbN,hM,jz]
  exact⟨rfl,rfl,.inr ⟨by omega,by rw[List.length_append,hcl];simp,N,rfl,h0,by omega,de _ _ _⟩,fun k hk=>by rw[dc _ _ _ _ (by omega),dc _ _ _ _ (by omega)],fun j hj=>by rw[eL];exact⟨dE (by omega),dE (by omega)⟩⟩
theorem zM(m:FM)(n a:Nat)(hz:a<90):
  Rt (df PG EL Y 220 [gV,.int .i64 (a:Int)] m n) fun v m' n' w=>n<=n'/\(∀b,b<n->m' b=m b)/\(∀j,j<=n->Nat.mod w (bit j)=0)/\SlZ 1 m' n n' v (gp a).length (ef (gp a)):=by
 refine uC (R:=fun v m' n'=>SlZ 1 m' n n' v (gp a).length (ef (gp a))) e220 rfl fun Q hQ=>?_
 simp only[I',gV]
 by_cases h4:a<60
 ·have e1:gp a=[]:=if_neg (by omega)
  have hR:∀M N,SlZ 1 M n N (.slice none 0 0) (gp a).length (ef (gp a)):=fun M N=>by rw[e1];exact .inl ⟨rfl,rfl,rfl⟩
  simp -implicitDefEqProofs (disch:=omega)only[W2,dd,Nat.testBit,Nat.reduceAdd,Nat.reduceShiftRight,Nat.reduceAnd,Nat.reduceBNe,Nat.reduceMul]
  refine di (Ay _ _ a h4) fun r1=>?_
  simp -implicitDefEqProofs (disch:=omega)only[W2,dd,Nat.testBit,Nat.reduceAdd,Nat.reduceShiftRight,Nat.reduceAnd,Nat.reduceBNe,Nat.reduceMul,dH]
  refine hQ _ _ _ _ _ (by omega) (fun b hb=>by rw[dc _ _ _ _ (by omega)]) ?_ (fun _=>hR _ _) (fun _=>hR _ _)
  simp -implicitDefEqProofs (disch:=omega)only[W2,dd,Nat.testBit,Nat.reduceAdd,Nat.reduceShiftRight,Nat.reduceAnd,Nat.reduceBNe,Nat.reduceMul]
 ·simp -implicitDefEqProofs (disch:=omega)only[W2,dd,Nat.testBit,Nat.reduceAdd,Nat.reduceShiftRight,Nat.reduceAnd,Nat.reduceBNe,Nat.reduceMul]
  refine di (Ax _ _ a (by omega) hz) fun r1=>?_
  simp -implicitDefEqProofs (disch:=omega)only[W2,dd,Nat.testBit,Nat.reduceAdd,Nat.reduceShiftRight,Nat.reduceAnd,Nat.reduceBNe,Nat.reduceMul,dH]
  generalize hM0:(AMem.put m n (some (.cells [.int .i64 60,.int .i64 5,.int .i64 2,.int .i64 3,.int .i64 1] 0 false true)):FM)=M0
  have hg:M0 n=some (.cells [.int .i64 60,.int .i64 5,.int .i64 2,.int .i64 3,.int .i64 1] 0 false true):=by rw[<-hM0];exact de _ _ _
  have lo0:∀b,b<n->M0 b=m b:=fun b hb=>by rw[<-hM0,dc _ _ _ _ (by omega)]
  have htk:(a-60) / 3 % 2<2:=Nat.mod_lt _ (by omega)
  refine dS (dm (L:=ze) (b:=nz) rfl ?_)
  simp only[nz]
  by_cases ht:(a-60) / 3 % 2=0
  ·have e1:gp a=[a+3]:=if_pos ⟨by omega,ht⟩
   rw[ht]
   simp -implicitDefEqProofs (disch:=omega)only[W2,dd,Nat.testBit,Nat.reduceAdd,Nat.reduceShiftRight,Nat.reduceAnd,Nat.reduceBNe,Nat.reduceMul,hg]
   generalize hM1:(AMem.put M0 (n+1) _:FM)=M1
   have lo1:∀b,b<n+1->M1 b=M0 b:=fun b hb=>by rw[<-hM1,dc _ _ _ _ (by omega)]
   generalize hM2:(AMem.put M1 (n+2) _:FM)=M2
   have lo2:∀b,b<n+2->M2 b=M1 b:=fun b hb=>by rw[<-hM2,dc _ _ _ _ (by omega)]
   have hg2:=(lo2 n (by omega)).trans ((lo1 n (by omega)).trans hg)
   have hS:SlZ 1 M2 n (n+3) (.slice (some ⟨n+2,0,none⟩) 1 UNK) (gp a).length (ef (gp a)):=by
    rw[e1]
    exact .inr ⟨Nat.one_pos,rfl,n+2,rfl,by omega,by omega,by rw[<-hM2,show((a:Int)+1*3)=((a+3:Nat):Int) by omega];exact de _ _ _⟩
   refine dm (L:=ze) (b:=nz) rfl ?_
   simp only[nz]
   simp -implicitDefEqProofs (disch:=omega)only[W2,dd,Nat.testBit,Nat.reduceAdd,Nat.reduceShiftRight,Nat.reduceAnd,Nat.reduceBNe,Nat.reduceMul,hg2]
   intro rr
   simp -implicitDefEqProofs (disch:=omega)only[W2,dd,Nat.testBit,Nat.reduceAdd,Nat.reduceShiftRight,Nat.reduceAnd,Nat.reduceBNe,Nat.reduceMul]
   refine hQ _ _ _ _ _ (by omega) (fun b hb=>by rw[lo2 b (by omega),lo1 b (by omega),lo0 b hb]) ?_ (fun _=>hS) (fun hfree=>absurd (show false=true from hfree) (by decide))
   simp -implicitDefEqProofs (disch:=omega)only[W2,dd,Nat.testBit,Nat.reduceAdd,Nat.reduceShiftRight,Nat.reduceAnd,Nat.reduceBNe,Nat.reduceMul]
  ·have e1:gp a=[]:=if_neg (by omega)
   have ht1:(a-60) / 3 % 2=1:=by omega
   rw[ht1]
   simp -implicitDefEqProofs (disch:=omega)only[W2,dd,Nat.testBit,Nat.reduceAdd,Nat.reduceShiftRight,Nat.reduceAnd,Nat.reduceBNe,Nat.reduceMul,hg]
   intro rr
   simp -implicitDefEqProofs (disch:=omega)only[W2,dd,Nat.testBit,Nat.reduceAdd,Nat.reduceShiftRight,Nat.reduceAnd,Nat.reduceBNe,Nat.reduceMul]
   refine hQ _ _ _ _ _ (by omega) (fun b hb=>by rw[lo0 b hb]) ?_ (fun _=>by rw[e1];exact .inl ⟨rfl,rfl,rfl⟩) (fun _=>by rw[e1];exact .inl ⟨rfl,rfl,rfl⟩)
   simp -implicitDefEqProofs (disch:=omega)only[W2,dd,Nat.testBit,Nat.reduceAdd,Nat.reduceShiftRight,Nat.reduceAnd,Nat.reduceBNe,Nat.reduceMul]
end Go.Am.CD
namespace Go.Am
open Go
section
variable{P:Program}
theorem fk{α β:Type}(s:Sem α)(f:α->Sem β):dG P (s >>= f)=(dG P s).bind fun a=>dG P (f a):=by
 show dG P (s.bind f)=_
 induction s with
 |pure a=>rfl
 |program k ih=>exact ih P
 |_=>rfl
theorem lS:dG P program=some P:=rfl
theorem gU{t:TypeId}{d:TypeDesc}(h:P.underlying t=some d):dG P (underlying t)=some d:=by
 unfold underlying
 rw[fk,lS]
 show dG P (match P.underlying t with|some d=>pure d|none=>stuck "no such type")=some d
 rw[h];rfl
theorem DR{t:TypeId}{k:IntKind}{cs:Array Value}{off:Nat}{v:Value}(h:P.underlying t=some (.int k))(hv:cs[off]?=some v):dG P (part t cs off)=some v:=by
 have h1:dG P (isAgg t)=some false:=by
  unfold isAgg
  rw[fk,gU h];rfl
 unfold part
 rw[fk,h1]
 show dG P (match cs[off]? with|some v=>pure v|none=>stuck "part: no such cell")=some v
 rw[hv];rfl
theorem yp{d:Nat}{t:TypeId}{k:IntKind}{a b:Int}(h:P.underlying t=some (.int k)):dG P (Op.equalIn (d+1) t (.int k a) (.int k b))=some (a==b):=by
 unfold Op.equalIn
 rw[fk,gU h]
 show dG P (if k=k then pure (a==b)else stuck "==: kinds differ")=_
 rw[if_pos rfl];rfl
end
variable{P:Program}
theorem oS{t:Nat}(ht:je P t=true)(a:Option Addr)(l c:Nat):ji P .eql t (.slice a l c) (.slice none 0 0)=some (.bool a.isNone):=by
 show cond (je P t) (kY .eql a.isNone) none=_
 rw[ht];rfl
theorem jY{t:Nat}(ht:jm P t=true)(a:Option Addr):ji P .eql t (.pointer a) (.pointer none)=some (.bool a.isNone):=by
 show cond (jm P t) (kY .eql a.isNone) none=_
 rw[ht];rfl
end Go.Am
namespace Go.Am.CD
set_option maxRecDepth 100000
open Go Go.Am
variable{Y:Nat->List Value->FM->Nat->OR FM}
variable{cs:List Value}{N sz cb N' n0 mb:Nat}{M M':FM}{v:Value}{xs:List (Int×Value)}
def Sh(sz:Nat)(M:FM)(N:Nat)(v:Value)(len:Nat)(cs:List Value):Prop:=
 ∃b o c xs opn wr,v=.slice (some ⟨b,o,none⟩) len c/\b<N/\M b=some (.cells xs sz opn wr)/\eO xs o (len*sz)=some cs/\0<len
theorem Sh.frame{len:Nat}(h:Sh sz M N v len cs)(hN:N<=N')(hf:∀b,b<N->M' b=M b):Sh sz M' N' v len cs:=by
 obtain⟨b,o,c,xs,opn,wr,h1,hb,hM,hc,h0⟩:=h
 exact⟨b,o,c,xs,opn,wr,h1,by omega,(hf b hb).trans hM,hc,h0⟩
theorem Sh.one{len:Nat}(h:Sh sz M N v len cs):Am.one v=true:=by
 obtain⟨b,o,c,xs,opn,wr,rfl,_⟩:=h;rfl
theorem Sh.bel{len:Nat}(h:Sh sz M N v len cs)(k:Nat)(hk:N<=k):et k v=true:=by
 obtain⟨b,o,c,xs,opn,wr,rfl,hb,_⟩:=h
 exact dC (show b<k by omega)
theorem Sh.len{len:Nat}(h:Sh sz M N v len cs):jS false v=some (.int .i64 (len:Int)):=by
 obtain⟨b,o,c,xs,opn,wr,rfl,_⟩:=h;rfl
theorem Sh.OE{len:Nat}(h:Sh sz M N v len cs):cs.length=len*sz:=by
 obtain⟨b,o,c,xs,opn,wr,_,_,_,hc,_⟩:=h
 exact(iF hc).2.1
theorem Sh.sl{len:Nat}(h:Sh sz M N v len cs):∃b o c,v=.slice (some ⟨b,o,none⟩) len c/\b<N/\0<len:=by
 obtain⟨b,o,c,xs,opn,wr,h1,hb,_,_,h0⟩:=h
 exact⟨b,o,c,h1,hb,h0⟩
theorem Sh.GR{len:Nat}(h:Sh sz M N v len cs):∃b,b<N/\shown M N sz v=some (cs,bit b):=by
 obtain⟨b,o,c,xs,opn,wr,rfl,hb,hM,hc,h0⟩:=h
 refine⟨b,hb,?_⟩
 rw[fZ h0,eS hb,hM,gd,Nat.beq_refl,cond_true,hc]
theorem Fw{len:Nat}(h:SlZ sz M n0 N v len cs)(h0:0<len):Sh sz M N v len cs:=by
 rcases h with⟨h1,_⟩|⟨_,hcl,b,rfl,_,hb,hM⟩
 ·omega
 ·exact⟨b,0,UNK,cs,true,true,rfl,hb,hM,by unfold eO;rw[gr,fw hcl.symm],h0⟩
theorem yV{bytes:Nat}{n0 b len:Nat}(hb:n0<=b)(hsz:0<sz)(hby:0<bytes)(hl0:0<len)(hone:cs.all Am.one=true)(hcl:cs.length=len*sz)(ya:Option Addr)(yc ry:Nat)(h0:n0<=N)(hl:len*bytes<=140737488355328):
  Rt (jq sz bytes M N (.slice (some ⟨b,0,none⟩) 0 0) (.slice ya len yc) (some ([],0)) (some (cs,ry))) fun v' M' N' w=>N'=N+1/\SlZ sz M' n0 N' v' len cs/\(∀b,b<N->M' b=M b)/\w=bit N:=by
 rw[fF,fy]
 rw[show(cs,ry).1.all Am.one=true from hone,dC hsz,dC hby,ep (show(0+len)*bytes<=140737488355328 by rw[Nat.zero_add];exact hl)]
 simp only[Bool.and_self,cond_true]
 have e:yW M N sz 0 len 0 [] cs (Nat.lor 0 ry) (some ⟨b,0,none⟩)=.ok (.slice (some ⟨N,0,none⟩) (0+len) UNK) (AMem.put M N (some (.cells ([]++cs) sz true true))) (N+1) (Nat.lor 0 ry) (bit N):=by
  have h3:Nat.ble (Nat.add 0 len) 0=false:=Bool.eq_false_iff.2 fun e=>by
   have:=Nat.le_of_ble_eq_true e
   have e2:Nat.add 0 len=0+len:=rfl
   omega
  show cond (Nat.beq 0 VAG) .no (cond (Nat.beq 0 UNK) (rq M N sz (Nat.add 0 len) ([]++cs) (Nat.lor 0 ry) ⟨b,0,none⟩ (fg M N b)) (cond (Nat.ble (Nat.add 0 len) 0) (Gk M N sz 0 (Nat.add 0 len) 0 cs (Nat.lor 0 ry) b 0 (fg M N b)) (vu M N sz (Nat.add 0 len) ([]++cs) (Nat.lor 0 ry))))=_
  rw[h3]
  rfl
 rw[e,Nat.zero_add,List.nil_append]
 exact⟨rfl,.inr ⟨hl0,hcl,N,rfl,h0,by omega,de _ _ _⟩,fun b hb=>dc _ _ _ _ (by omega),rfl⟩
theorem uT(m:FM)(n:Nat){len:Nat}(h:Sh 1 m n v len cs)(hone:cs.all Am.one=true)(hl:len<=1000000):
  Rt (df PG EL Y 146 [v] m n) fun v' m' n' w=>n<=n'/\(∀b,b<n->m' b=m b)/\(∀j,j<=n->Nat.mod w (bit j)=0)/\SlZ 1 m' n n' v' len cs:=by
 refine ez (R:=fun v m' n'=>SlZ 1 m' n n' v len cs) e146 rfl fun Q hQ=>?_
 have e26:ji PG .eql 99 v (.slice none 0 0)=some (.bool false):=by
  obtain⟨b,o,c,rfl,hb,h0⟩:=h.sl
  exact oS (P:=PG) (t:=99) (by kernel_rfl) (some ⟨b,o,none⟩) len c
 have hone1:=h.one
 simp only[JH]
 simp -implicitDefEqProofs (disch:=omega)only[W2,dd,Nat.testBit,Nat.reduceAdd,Nat.reduceShiftRight,Nat.reduceAnd,Nat.reduceBNe,Nat.reduceMul,e26,hone1]
 generalize hM1:(AMem.put m n (some (.cells [] 1 false true)):FM)=M1
 have lo1:∀b,b<n->M1 b=m b:=fun b hb=>by rw[<-hM1,dc _ _ _ _ (by omega)]
 obtain⟨b',hb',hsh⟩:=(h.frame (show n<=n+1 by omega) lo1).GR
 obtain⟨b,o,c,rfl,hb,h0⟩:=h.sl
 rw[hsh]
 refine dw (yV (n0:=n) (Nat.le_refl _) (by omega) (by omega) h0 hone h.OE _ _ _ (by omega) (by omega)) fun v2 M2 N2 r2 w2 ⟨n2,hS2,lo2,hw2⟩=>?_
 subst n2;subst hw2
 simp -implicitDefEqProofs (disch:=omega)only[W2,dd,Nat.testBit,Nat.reduceAdd,Nat.reduceShiftRight,Nat.reduceAnd,Nat.reduceBNe,Nat.reduceMul]
 refine hQ _ _ _ _ _ (by omega) (fun b hb=>by rw[lo2 b (by omega),lo1 b hb]) ?_ ?_ hS2
 ·simp -implicitDefEqProofs (disch:=omega)only[W2,dd,Nat.testBit,Nat.reduceAdd,Nat.reduceShiftRight,Nat.reduceAnd,Nat.reduceBNe,Nat.reduceMul]
 ·rcases hS2 with⟨q,_⟩|⟨_,_,b,rfl,_⟩
  ·omega
  ·rfl
def jk:List (Int×Value)->List Value
 |[]=>[]
 |x::xs=>.int .i64 x.1::x.2::jk xs
theorem lj:∀xs:List (Int×Value),(jk xs).length=xs.length*2
 |[]=>rfl
 |x::xs=>by rw[jk,List.length_cons,List.length_cons,lj xs,List.length_cons];omega
theorem tS:∀(xs:List (Int×Value)) (i:Nat) (h:i<xs.length),(jk xs)[i*2]?=some (.int .i64 xs[i].1)/\(jk xs)[i*2+1]?=some xs[i].2
 |[],i,h=>by cases h
 |x::xs,0,h=>⟨rfl,rfl⟩
 |x::xs,i+1,h=>by
  have:=tS xs i (by rw[List.length_cons]at h;omega)
  rw[show(i+1)*2=i*2+1+1 by omega,show i*2+1+1+1=i*2+1+1+1 from rfl]
  simp only[jk,List.getElem?_cons_succ,List.getElem_cons_succ]
  exact this
theorem pJ:∀(xs:List (Int×Value)) (i:Nat) (h:i<xs.length) (st:Int) (v:Value),setCells (jk xs) (i*2) [.int .i64 st,v]=some (jk (xs.set i (st,v)))
 |[],i,h,_,_=>by cases h
 |x::xs,0,h,st,v=>by
  rw[eh,if_pos (by rw[lj,List.length_cons];simp only[List.length_cons,List.length_nil];omega)]
  rfl
 |x::xs,i+1,h,st,v=>by
  have:=pJ xs i (by rw[List.length_cons]at h;omega) st v
  rw[eh]at this ⊢
  have hl:i<xs.length:=by rw[List.length_cons]at h;omega
  rw[if_pos (by rw[lj];simp only[List.length_cons,List.length_nil];omega)]at this
  rw[if_pos (by rw[lj,List.length_cons];simp only[List.length_cons,List.length_nil];omega)]
  injection this with this
  rw[List.set_cons_succ,jk,jk,<-this,show(i+1)*2=i*2+1+1 by omega]
  simp only[List.take_succ_cons,List.drop_succ_cons,List.cons_append,List.length_cons,List.length_nil]
structure Med(M:FM)(N mb cb:Nat)(xs:List (Int×Value)):Prop where
 st:M mb=some (.cells [.int .i64 60,.int .i64 5,.int .i64 2,.int .i64 3,.int .i64 1,.slice (some ⟨cb,0,none⟩) xs.length UNK] 0 false true)
 sc:M cb=some (.cells (jk xs) 2 true true)
 len:xs.length=90
 mbN:mb<N
 cbN:cb<N
 ne:mb≠cb
 one:∀x∈xs,Am.one x.2=true
theorem Med.frame(h:Med M N mb cb xs)(hN:N<=N')(h1:M' mb=M mb)(h2:M' cb=M cb):Med M' N' mb cb xs:=
 ⟨h1.trans h.st,h2.trans h.sc,h.len,by have:=h.mbN;omega,by have:=h.cbN;omega,h.ne,h.one⟩
theorem qb{cb i len c:Nat}(h:i<len):fU 2 i (.slice (some ⟨cb,0,none⟩) len c)=some (.pointer (some ⟨cb,i*2,none⟩)):=by
 rw[eY h,Nat.zero_add]
theorem Cp(a:Addr):ji PG .neq 70 (.pointer (some a)) (.pointer none)=some (.bool true):=by
 show cond (jm PG 70) (kY .neq false) none=_
 rw[show jm PG 70=true by kernel_rfl];rfl
theorem lI(a:Addr):ji PG .eql 70 (.pointer (some a)) (.pointer none)=some (.bool false):=by
 rw[jY (by kernel_rfl)];rfl
theorem re{m:FM}{n:Nat}(h:Med m n mb cb xs)(a:Nat)(ha:a<xs.length):Pure (df PG EL Y 210 [.pointer (some ⟨mb,0,none⟩),.int .i64 (a:Int)] m n) m n (.bool true):=by
 have hmb:=h.mbN
 have hst:=h.st
 have hl:=h.len
 refine dz e210 rfl rfl ?_
 simp only[Jd]
 simp -implicitDefEqProofs (disch:=omega)only[W2,dd,Nat.testBit,Nat.reduceAdd,Nat.reduceShiftRight,Nat.reduceAnd,Nat.reduceBNe,Nat.reduceMul,Cp,hst]
def nk(xs:List (Int×Value))(l:List Nat):List (Int×Value):=l.foldl (fun xs s=>xs.set s (2,.slice none 0 0)) xs
def oE(a:Nat)(v:Value)(xs:List (Int×Value)):List (Int×Value):=nk (xs.set a (1,v)) (gp a)
theorem nW:∀(l:List Nat) (xs:List (Int×Value)),(nk xs l).length=xs.length
 |[],xs=>rfl
 |s::l,xs=>by
  show(nk (xs.set s _) l).length=_
  rw[nW l,List.length_set]
theorem wZ:∀(l:List Nat) (xs:List (Int×Value)),(∀x∈xs,Am.one x.2=true)->∀x∈nk xs l,Am.one x.2=true
 |[],xs,h=>h
 |s::l,xs,h=>wZ l _ fun x hx=>by
  rcases List.mem_or_eq_of_mem_set hx with hx|rfl
  ·exact h x hx
  ·rfl
theorem GU{a s:Nat}(ha:a<90)(hs:s∈gp a):s<90:=by
 unfold gp at hs
 split at hs
 ·rw[List.mem_singleton]at hs;omega
 ·cases hs
end Go.Am.CD
