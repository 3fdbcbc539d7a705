/- The machine and its runs, part 7: AxSym AxMono AxShow AxMm AxOmega AxEq AyDl AyAa AyAb AyAc AyAd AyAe AxEqD. -/
import Derived.Test.YtokdochbjilecaaGreatDoorWB2
import Derived.Test.YtokdochbjilecaaGreatDoorB6
set_option linter.unusedVariables false
set_option linter.unusedSimpArgs false
set_option linter.unusedSectionVars false
namespace Go.Am
open Go
def FM:=Nat->Option Blk
instance:AMem FM where
 get m b:=m b
 put m b x:=fun j=>if j=b then x else m j
 lim _ _:=true
 get_put m i j x _:=rfl
 get_lim _ _ _ _:=rfl
 lim_put _ _ _ _:=rfl
section
variable{μ:Type}[AMem μ]{P:Program}{E:Nat->Option AFn}{Y:Nat->List Value->μ->Nat->OR μ}{k:Nat}{e:List Value}{m:μ}{n r w:Nat}
theorem Ak(vs:List Value)(r:Nat):ov e m n (some (vs,r))=.ok (.ret (tY vs)) e m n r 0:=rfl
variable{rec:Nat->List Value->μ->Nat->OR μ}
theorem o_nil:gD P rec [] e m n r w=.ok .norm e m n r w:=by show sn e m n r w=_;rw[sn,dT,dT]
theorem MM(x:Opd):dJ P rec e m n (.mov x)=.ok (ev e x) m n 0 0:=rfl
theorem G2(c a b:Opd):dJ P rec e m n (.pick c a b)=eG m n (Aa (ev e a) (ev e b) (ev e c)):=rfl
theorem MV(op:BinOp)(t:Nat)(x y:Opd):dJ P rec e m n (.bin op t x y)=eG m n (ji P op t (ev e x) (ev e y)):=rfl
theorem MK(op:UnOp)(x:Opd):dJ P rec e m n (.una op x)=eG m n (zz op (ev e x)):=rfl
theorem G6(q:IntKind)(x:Opd):dJ P rec e m n (.conv q x)=eG m n (iO q (ev e x)):=rfl
theorem MT(off:Nat)(x:Opd):dJ P rec e m n (.fld off x)=eG m n (F1 off (ev e x)):=rfl
theorem MR(sz:Nat)(x i:Opd):dJ P rec e m n (.idx sz x i)=eG m n (rS (fun i=>fU sz i (ev e x)) (eN (ev e i))):=rfl
theorem MS(c sz:Nat)(x i:Opd):dJ P rec e m n (.ida c sz x i)=eG m n (rS (fun i=>FU c sz i (ev e x)) (eN (ev e i))):=rfl
theorem DA(z:List Value)(ps:List (Nat×Nat×Opd)):dJ P rec e m n (.build z ps)=eG m n (qq (jW (kU e ps) z)):=rfl
theorem G5(i:Nat)(x:Opd):dJ P rec e m n (.extr i x)=eG m n (xl i (ev e x)):=rfl
theorem Dz(x:Opd):dJ P rec e m n (.nilck x)=eG m n (qW (ev e x)):=rfl
theorem gj(f:Nat)(a c:List Opd):dJ P rec e m n (.func f a c)=.ok (.func (.func f) (evs e a).toArray (evs e c).toArray) m n 0 0:=rfl
theorem MO(s:Bool)(x:Opd):dJ P rec e m n (.len s x)=eG m n (jS s (ev e x)):=rfl
theorem s_mx(x y:Opd):dJ P rec e m n (.mx x y)=eG m n (mxV (ev e x) (ev e y)):=rfl
theorem ol(sz:Nat)(x:Opd)(lo hi:Option Opd):dJ P rec e m n (.slc sz x lo hi)=kP m n sz (jK sz (oev e lo) (oev e hi) (ev e x)) (ev e x):=rfl
theorem ML(c:List Value):dJ P rec e m n (.new c)=kZ m n (.cells c 0 false true) iU:=rfl
theorem MU(x:Opd):dJ P rec e m n (.box x)=kZ m n (.cells (ev e x).cells.toList 0 false true) iU:=rfl
theorem MN(sz len:Nat)(z:List Value)(ps:List (Nat×Opd)):dJ P rec e m n (.mkl sz len z ps)=Ap m n sz len (jW (iV sz e ps) (mE z len)):=rfl
theorem G3(sz bytes:Nat)(z:List Value)(l c:Opd):dJ P rec e m n (.make sz bytes z l c)=rX sz bytes z m n (eN (ev e l)) (eN (ev e c)):=rfl
theorem MQ(x:Opd):dJ P rec e m n (.ld1 x)=rh m n (ev e x):=rfl
theorem MP(c:Nat)(x:Opd):dJ P rec e m n (.ldn c x)=vR c m n (ev e x):=rfl
theorem s_st(c:Nat)(x y:Opd):dJ P rec e m n (.st c x y)=stV c (ev e y).cells.toList m n (ev e x):=rfl
theorem MW(sz bytes:Nat)(x y:Opd):dJ P rec e m n (.app sz bytes x y)=jq sz bytes m n (ev e x) (ev e y) (shown m n sz (ev e x)) (shown m n sz (ev e y)):=rfl
theorem G7(f:Nat)(args:List Opd):dJ P rec e m n (.call f args)=rec f (evs e args) m n:=rfl
theorem jw(x:Opd)(args:List Opd):dJ P rec e m n (.callv x args)=ju rec (evs e args) m n (ev e x):=rfl
theorem ev_v(i:Nat):ev e (.v i)=ey e i:=rfl
theorem ev_c(x:Value):ev e (.c x)=x:=rfl
theorem HN(a:Value)(l:List Value):ey (a::l) 0=a:=rfl
theorem HO(a:Value)(l:List Value)(i:Nat):ey (a::l) (i+1)=ey l i:=rfl
theorem Ew:evs e []=[]:=rfl
theorem A3(x:Opd)(l:List Opd):evs e (x::l)=ev e x::evs e l:=rfl
theorem Az(t:List Value):Cv e [] t=t:=rfl
theorem wT(i:Nat)(s:List Nat)(t:List Value):Cv e (i::s) t=ey e i::Cv e s t:=rfl
theorem gr(l:List Value):lE l 0=l:=by cases l<;>rfl
theorem Ek(a:Value)(l:List Value)(i:Nat):lE (a::l) (i+1)=lE l i:=rfl
theorem Et(sel:List Nat)(d:Nat):AV sel d e=Cv e sel (lE e d):=rfl
theorem vZ(v:Value):eG m n (some v)=.ok v m n 0 0:=rfl
theorem EP(op:BinOp)(t:Nat)(q:IntKind)(a b:Int):ji P op t (.int q a) (.int q b)=fN op q a b:=by
 show cond (decide (q=q)) (fN op q a b) none=_;simp
theorem Nw(q:IntKind)(a b:Int):fN .add q a b=some (.int q (q.wrap (a+b))):=by show some (Value.int q (gn q (Int.add a b)))=_;rw[eW];rfl
theorem Nl(q:IntKind)(a b:Int):fN .sub q a b=some (.int q (q.wrap (a-b))):=by show some (Value.int q (gn q (Int.sub a b)))=_;rw[eW];rfl
theorem Np(q:IntKind)(a b:Int):fN .mul q a b=some (.int q (q.wrap (a*b))):=by show some (Value.int q (gn q (Int.mul a b)))=_;rw[eW];rfl
theorem i_quo(q:IntKind)(a b:Int):fN .quo q a b=if b=0 then none else some (.int q (q.wrap (a.tdiv b))):=by show cond (eqB b 0) none (some (Value.int q (gn q (a.tdiv b))))=_;rw[eW,np];by_cases h:b=0<;>simp[h]
theorem H5(q:IntKind)(a b:Int):fN .rem q a b=if b=0 then none else some (.int q (a.tmod b)):=by show cond (eqB b 0) none (some (Value.int q (a.tmod b)))=_;rw[np];by_cases h:b=0<;>simp[h]
theorem Nv(q:IntKind)(a b:Int):fN .eql q a b=some (.bool (decide (a=b))):=by show some (Value.bool (eqB a b))=_;rw[np]
theorem Nn(q:IntKind)(a b:Int):fN .neq q a b=some (.bool (!decide (a=b))):=by show some (Value.bool (!eqB a b))=_;rw[np]
theorem Nq(q:IntKind)(a b:Int):fN .lss q a b=some (.bool (decide (a<b))):=by show some (Value.bool (ltB a b))=_;rw[iW]
theorem Ns(q:IntKind)(a b:Int):fN .gtr q a b=some (.bool (decide (b<a))):=by show some (Value.bool (ltB b a))=_;rw[iW]
theorem Nr(q:IntKind)(a b:Int):fN .leq q a b=some (.bool (decide (a<=b))):=by show some (Value.bool (!ltB b a))=_;rw[iW,yM]
theorem Nu(q:IntKind)(a b:Int):fN .geq q a b=some (.bool (decide (b<=a))):=by show some (Value.bool (!ltB a b))=_;rw[iW,yM]
theorem DT(a b:Value)(t:Bool):Aa a b (.bool t)=some (cond t a b):=rfl
theorem zr(w t:Bool):dQ w (.bool t)=cond w t (!t):=rfl
theorem H8(off b o:Nat):F1 off (.pointer (some ⟨b,o,none⟩))=some (.pointer (some ⟨b,o+off,none⟩)):=rfl
theorem Al(a:Addr):qW (.pointer (some a))=some (.pointer (some a)):=rfl
theorem Dm(t:Bool):zz .not (.bool t)=some (.bool (!t)):=rfl
theorem DH:lq e m n []=some ([],0):=rfl
theorem zT(x:ROp)(l:List ROp):lq e m n (x::l)=Option.rec (motive:=fun _=>Option (List Value×Nat)) none (fun p=>yj e m n p.1 p.2 x) (lq e m n l):=rfl
theorem Hf(vs:List Value)(r i:Nat):yj e m n vs r (.v i)=some (ey e i::vs,r):=rfl
theorem zS(v:Value):tY [v]=v:=rfl
end
section
variable{μ:Type}[AMem μ]{P:Program}
def OLe(x y:OR μ):Prop:=∀v m n r w,x=.ok v m n r w->y=.ok v m n r w
def CLe(x y:CR μ):Prop:=∀X e m n r w,x=.ok X e m n r w->y=.ok X e m n r w
theorem OLe.refl(x:OR μ):OLe x x:=fun _ _ _ _ _ h=>h
theorem CLe.refl(x:CR μ):CLe x x:=fun _ _ _ _ _ _ h=>h
theorem OLe.trans{x y z:OR μ}(h:OLe x y)(k:OLe y z):OLe x z:=fun v m n r w e=>k v m n r w (h v m n r w e)
theorem CLe.trans{x y z:CR μ}(h:CLe x y)(k:CLe y z):CLe x z:=fun X v m n r w e=>k X v m n r w (h X v m n r w e)
theorem OLe.no(y:OR μ):OLe .no y:=fun _ _ _ _ _ h=>by cases h
theorem CLe.no(y:CR μ):CLe .no y:=fun _ _ _ _ _ _ h=>by cases h
def xS(a b:Nat->List Value->μ->Nat->OR μ):Prop:=∀f args m n,OLe (a f args m n) (b f args m n)
def Ki(a b:AC->List Value->μ->Nat->CR μ):Prop:=∀c e m n,CLe (a c e m n) (b c e m n)
theorem mV{x y:OR μ}{f g:Value->μ->Nat->Nat->Nat->CR μ}(h:OLe x y)(hf:∀v m n r w,CLe (f v m n r w) (g v m n r w)):CLe (gq x f) (gq y g):=by
 cases x with
 |no=>exact CLe.no _
 |ok v m n r w=>rw[h _ _ _ _ _ rfl];exact hf v m n r w
theorem ql{x y:CR μ}{f g:AX->List Value->μ->Nat->Nat->Nat->CR μ}(h:CLe x y)(hf:∀X e m n r w,CLe (f X e m n r w) (g X e m n r w)):CLe (fY x f) (fY y g):=by
 cases x with
 |no=>exact CLe.no _
 |ok X e m n r w=>rw[h _ _ _ _ _ _ rfl];exact hf X e m n r w
theorem j3(b:Bool){x x' y y':CR μ}(h:CLe x x')(k:CLe y y'):CLe (cond b x y) (cond b x' y'):=by cases b<;>assumption
theorem pG{a b:Nat->List Value->μ->Nat->OR μ}(h:xS a b)(e:List Value)(m:μ)(n:Nat)(o:AOp):OLe (dJ P a e m n o) (dJ P b e m n o):=by
 cases o
 case call f args=>exact h f _ m n
 case callv x args=>
  show OLe (ju a (evs e args) m n (ev e x)) (ju b (evs e args) m n (ev e x))
  generalize ev e x=v
  unfold ju
  split
  ·exact h _ _ m n
  ·exact OLe.refl _
 all_goals exact OLe.refl _
theorem Ht{a b:Nat->List Value->μ->Nat->OR μ}(h:xS a b):∀(l:List AI) (e:List Value) (m:μ) (n r w:Nat),CLe (gD P a l e m n r w) (gD P b l e m n r w)
 |[],e,m,n,r,w=>CLe.refl _
 |i::l,e,m,n,r,w=>by
  have ih:=Ht h l
  cases i with
  |nop i=>exact ih e m n r w
  |op o=>exact mV (pG h e m n o) fun v m n r' w'=>ih _ m n _ _
  |eff o=>exact mV (pG h e m n o) fun v m n r' w'=>ih _ m n _ _
  |opg o gi gw=>exact j3 _ (mV (pG h e m n o) fun v m n r' w'=>ih _ m n _ _) (ih _ m n r w)
  |effg o gi gw=>exact j3 _ (mV (pG h e m n o) fun v m n r' w'=>ih _ m n _ _) (ih _ m n r w)
theorem Hw{bef k:Nat}{done:List (Nat×Nat×Nat)}{x y:OR μ}{f g:Value->μ->Nat->Nat->Nat->List (Nat×Nat×Nat)->CR μ}(h:OLe x y)(hf:∀v m n r w d,CLe (f v m n r w d) (g v m n r w d)):CLe (okD bef k done x f) (okD bef k done y g):=by
 refine mV h fun v m n r w=>?_
 rw[dT,dT,dT,dT]
 exact j3 _ (hf v m n r w _) (j3 _ (hf v m n r w _) (CLe.refl _))
theorem zI{a b:Nat->List Value->μ->Nat->OR μ}(h:xS a b)(e:List Value)(m:μ)(n:Nat)(o:AOp):OLe (eH P a e m n o) (eH P b e m n o):=by
 unfold eH
 cases j8 n e o
 ·exact OLe.refl _
 ·exact pG h e m n o
theorem DZ{a b:Nat->List Value->μ->Nat->OR μ}(h:xS a b):∀(l:List AI) (bs:List Nat) (k:Nat) (done:List (Nat×Nat×Nat)) (e:List Value) (m:μ) (n r w:Nat),CLe (fH P a l bs k done e m n r w) (fH P b l bs k done e m n r w)
 |[],bs,k,done,e,m,n,r,w=>CLe.refl _
 |i::l,bs,k,done,e,m,n,r,w=>by
  have ih:=DZ h l
  have h1:∀o,CLe (okD (bs.headD 0) k done (eH P a e m n o) fun v m n r' w' done=>fH P a l bs.tail (Nat.succ k) done (v::e) m n (Nat.lor r r') (Nat.lor w w'))
    (okD (bs.headD 0) k done (eH P b e m n o) fun v m n r' w' done=>fH P b l bs.tail (Nat.succ k) done (v::e) m n (Nat.lor r r') (Nat.lor w w')):=fun o=>
   Hw (zI h e m n o) fun v m n r' w' d=>ih _ _ _ _ m n _ _
  have h2:∀o,CLe (okD (bs.headD 0) k done (eH P a e m n o) fun _ m n r' w' done=>fH P a l bs.tail (Nat.succ k) done e m n (Nat.lor r r') (Nat.lor w w'))
    (okD (bs.headD 0) k done (eH P b e m n o) fun _ m n r' w' done=>fH P b l bs.tail (Nat.succ k) done e m n (Nat.lor r r') (Nat.lor w w')):=fun o=>
   Hw (zI h e m n o) fun v m n r' w' d=>ih _ _ _ _ m n _ _
  cases i with
  |nop i=>exact ih _ _ _ e m n r w
  |op o=>exact h1 o
  |eff o=>exact h2 o
  |opg o gi gw=>exact j3 _ (h1 o) (ih _ _ _ _ m n r w)
  |effg o gi gw=>exact j3 _ (h2 o) (ih _ _ _ _ m n r w)
theorem EJ{E:Nat->Option AFn}{Y:Nat->List Value->μ->Nat->OR μ}{a b:AC->List Value->μ->Nat->CR μ}(h:Ki a b):xS (dX E Y a) (dX E Y b):=by
 intro f args m n
 show OLe (Option.rec (motive:=fun _=>OR μ) (Y f args m n) (mB a args m n) (E f)) (Option.rec (motive:=fun _=>OR μ) (Y f args m n) (mB b args m n) (E f))
 cases E f with
 |none=>exact OLe.refl _
 |some fn=>
  show OLe (cond (Nat.beq (gx args) fn.na) (CR.rec (motive:=fun _=>OR μ) .no (fun x e m' n' r w=>ig fn m n e m' n' r w x) (a fn.code args m n)) .no) (cond (Nat.beq (gx args) fn.na) (CR.rec (motive:=fun _=>OR μ) .no (fun x e m' n' r w=>ig fn m n e m' n' r w x) (b fn.code args m n)) .no)
  cases Nat.beq (gx args) fn.na
  ·exact OLe.refl _
  ·show OLe (CR.rec (motive:=fun _=>OR μ) .no (fun x e m' n' r w=>ig fn m n e m' n' r w x) (a fn.code args m n)) (CR.rec (motive:=fun _=>OR μ) .no (fun x e m' n' r w=>ig fn m n e m' n' r w x) (b fn.code args m n))
   have hc:=h fn.code args m n
   cases ha:a fn.code args m n with
   |no=>exact OLe.no _
   |ok X e m' n' r w=>rw[hc _ _ _ _ _ _ ha];exact OLe.refl _
theorem I6(r w:Nat){x y:CR μ}(h:CLe x y):CLe (fP r w x) (fP r w y):=by
 cases x with
 |no=>exact CLe.no _
 |ok X e m n r' w'=>rw[h _ _ _ _ _ _ rfl];exact CLe.refl _
theorem wK{f g:List Value->μ->Nat->CR μ}(h:∀e m n,CLe (f e m n) (g e m n))(X:AX)(e:List Value)(m:μ)(n r w:Nat):CLe (fI f X e m n r w) (fI g X e m n r w):=by
 cases X with
 |norm=>exact I6 r w (h e m n)
 |exit i=>exact CLe.refl _
 |ret v=>exact CLe.refl _
noncomputable def uH(P:Program)(cal:Nat->List Value->μ->Nat->OR μ)(rec:AC->List Value->μ->Nat->CR μ)(c:AC)(e:List Value)(m:μ)(n:Nat):CR μ:=
 AC.casesOn (motive:=fun _=>CR μ) c
  (.ok .norm e m n 0 0)
  (fun l=>gD P cal l e m n 0 0)
  (fun l bs=>fH P cal l bs 0 [] e m n 0 0)
  (fun a b=>fY (rec a e m n) (fI (rec b)))
  (fun x a b=>ic (rec a e m n) (rec b e m n) (ev e x))
  (fun id _ b=>fY (rec b e m n) (kx id))
  (fun sh b=>fY (rec b e m n) (fI (rec (.loop sh b))))
  (fun sel d c=>rec c (AV sel d e) m n)
  (fun c sel d=>fY (rec c e m n) (mZ sel d))
  (fun id=>.ok (.exit id) e m n 0 0)
  (fun rs=>ov e m n (lq e m n rs))
theorem A0{ca cb:Nat->List Value->μ->Nat->OR μ}{a b:AC->List Value->μ->Nat->CR μ}(hc:xS ca cb)(h:Ki a b)(c:AC)(e:List Value)(m:μ)(n:Nat):CLe (uH P ca a c e m n) (uH P cb b c e m n):=by
 cases c with
 |skip=>exact CLe.refl _
 |reg l=>exact Ht hc l e m n 0 0
 |regD l bs=>exact DZ hc l bs 0 [] e m n 0 0
 |seq x y=>exact ql (h x e m n) fun X e m n r w=>wK (h y) X e m n r w
 |cond o x y=>
  show CLe (ic (a x e m n) (a y e m n) (ev e o)) (ic (b x e m n) (b y e m n) (ev e o))
  generalize ev e o=v
  unfold ic
  split
  ·exact j3 _ (h x e m n) (h y e m n)
  ·exact CLe.refl _
 |block id sh x=>exact ql (h x e m n) fun X e m n r w=>CLe.refl _
 |loop sh x=>exact ql (h x e m n) fun X e m n r w=>wK (h _) X e m n r w
 |pre sel d x=>exact h x _ m n
 |post x sel d=>exact ql (h x e m n) fun X e m n r w=>CLe.refl _
 |exit id=>exact CLe.refl _
 |ret rs=>exact CLe.refl _
theorem nZ{E:Nat->Option AFn}{Y:Nat->List Value->μ->Nat->OR μ}:∀k,Ki (exec P E Y k) (exec P E Y (k+1))
 |0=>fun _ _ _ _=>CLe.no _
 |k+1=>fun c e m n=>A0 (EJ (nZ k)) (nZ k) c e m n
theorem rk{E:Nat->Option AFn}{Y:Nat->List Value->μ->Nat->OR μ}{k k':Nat}(h:k<=k'):Ki (exec P E Y k) (exec P E Y k'):=by
 induction h with
 |refl=>exact fun _ _ _ _=>CLe.refl _
 |step _ ih=>exact fun c e m n=>(ih c e m n).trans (nZ _ c e m n)
end
open Go Go.RowKit
section
variable{μ:Type}[AMem μ]{ρ:Ren}{V:Nat->Option Blk}{w w':World}{B:Nat}
theorem Post.Hy{n:Nat}{m:μ}(hm:MRel ρ V w B)(hb:Below w.heap.size w w'):Post ρ V w B n m n 0 ρ w':=
 ⟨Ren.le_refl ρ,fun _ _ h=>.inl h,by
  rw[pC]
  exact⟨fun b p O hp hO=>(hm.blk b p O hp hO).mono (Ren.le_refl ρ) (hb.block _ (hm.fresh b p hp)),hm.excl,fun b p hp=>Nat.lt_of_lt_of_le (hm.fresh b p hp) hb.size,Nat.le_trans hm.le hb.size,hm.gl.mono (hb.mono hm.le)⟩,
  hb.mono hm.le,Nat.le_refl _,fun k hk _=>hb.block k hk,fun _ _ h=>.inl h,fun b h=>by simp at h⟩
end
end Go.Am
namespace Go.Am.V
open Go Go.Am Go.RowKit
noncomputable def qX(n len:Nat):Nat:=Nat.shiftLeft (Nat.sub (Nat.pow 2 len) 1) n
theorem lD(n len b:Nat):(qX n len).testBit b=(decide (n<=b)&&decide (b<n+len)):=by
 show(((2 ^ len-1) <<< n).testBit b)=_
 rw[Nat.testBit_shiftLeft,Nat.testBit_two_pow_sub_one,Bool.eq_iff_iff]
 simp
 omega
def yX(a b:Nat->List Value->FM->Nat->OR FM):Nat->List Value->FM->Nat->OR FM:=fun f args m n=>
 match a f args m n with
 | .no=>b f args m n
 | .ok v m n r w=>.ok v m n r w
theorem tf{a b:Nat->List Value->FM->Nat->OR FM}(ha:ew a)(hb:ew b):ew (yX a b):=by
 intro f args m n v m' n' r wm h
 unfold yX at h
 split at h
 ·exact hb _ _ _ _ _ _ _ _ _ h
 ·rename_i he
  rw[h]at he
  exact ha _ _ _ _ _ _ _ _ _ he
theorem td{P:Program}{a b:Nat->List Value->FM->Nat->OR FM}(ha:eQ P a)(hb:eQ P b):eQ P (yX a b):=by
 intro f args m n v m' n' r wm h
 unfold yX at h
 split at h
 ·exact hb _ _ _ _ _ _ _ _ _ h
 ·rename_i he
  rw[h]at he
  exact ha _ _ _ _ _ _ _ _ _ he
structure Env(P:Program)(tab:List (Nat×AFn))(Y:Nat->List Value->FM->Nat->OR FM):Prop where
 mix:P.follows .mixedOrders=true
 yI:Good P tab
 loc:ew Y
 sim:eQ P Y
theorem Env.calls{P:Program}{tab:List (Nat×AFn)}{Y:Nat->List Value->FM->Nat->OR FM}(h:Env P tab Y)(k:Nat):eQ P (dX (look tab) Y (exec P (look tab) Y k)):=
 uW h.loc h.sim h.yI.look (qm h.mix uN h.loc h.sim h.yI.look k).1
theorem Env.topA{P:Program}{tab:List (Nat×AFn)}{Y:Nat->List Value->FM->Nat->OR FM}(h:Env P tab Y){k f:Nat}{args:List Value}{m0 m:FM}{n r wm:Nat}(ha:∀ρ,∀a∈args,VRel ρ a a)(hrun:dX (look tab) Y (exec P (look tab) Y k) f args m0 0=.ok (.bool true) m n r wm)(w:World)(hgl:kl w.heap.size w):
  Calls P f args.toArray w fun e w'=>e=.returned (.bool true)/\Below w.heap.size w w':=by
 obtain⟨_,hc⟩:=h.calls k f args m0 0 (.bool true) m n r wm hrun (fun _=>none) (fun _=>none) w w.heap.size (Nat.lor r wm) args.toArray ⟨rfl,fun i x y hx hy=>by
   have:x=y:=by simp at hy;rw[hx]at hy;injection hy
   subst this
   exact ha _ x (List.mem_of_getElem? hx)⟩ (Sub.refl _) (fun b hb=>by omega) (qZ w hgl) (fun _ _=>rfl)
 refine hc.mono fun e w' hh=>?_
 obtain⟨ρ',v',rfl,hv,hp⟩:=hh
 rw[hv.dN rfl]
 exact⟨rfl,hp.below⟩
def FM0:FM:=fun _=>none
def isT:Value->Bool
 | .bool b=>b
 |_=>false
theorem Of{v:Value}(h:isT v=true):v=.bool true:=by
 unfold isT at h
 split at h
 ·rw[h]
 ·cases h
noncomputable def CH(x:OR FM):Bool:=OR.rec (motive:=fun _=>Bool) false (fun v _ _ _ _=>isT v) x
theorem FW{x:OR FM}(h:CH x=true):∃m n r w,x=.ok (.bool true) m n r w:=by
 cases x with
 |no=>cases h
 |ok v m n r w=>exact⟨_,_,_,_,by rw[Of (v:=v) h]⟩
theorem Env.lawA{P:Program}{tab:List (Nat×AFn)}{Y:Nat->List Value->FM->Nat->OR FM}(h:Env P tab Y){k f:Nat}{args:List Value}(ha:∀ρ,∀a∈args,VRel ρ a a)(hrun:CH (dX (look tab) Y (exec P (look tab) Y k) f args FM0 0)=true)(w:World)(hgl:kl w.heap.size w):
  Calls P f args.toArray w fun e w'=>e=.returned (.bool true)/\Below w.heap.size w w':=by
 obtain⟨m,n,r,wm,he⟩:=FW hrun
 exact h.topA ha he w hgl
theorem xh{args:List Value}(h:args.all du=true):∀(ρ:Ren),∀a∈args,VRel ρ a a:=fun ρ a ha=>gN ρ (List.all_eq_true.1 h a ha)
end Go.Am.V
namespace Go.Am
open Go
section
variable{μ:Type}[AMem μ]{P:Program}{E:Nat->Option AFn}{Y:Nat->List Value->μ->Nat->OR μ}
open Classical in
noncomputable def dt(P:Program)(E:Nat->Option AFn)(Y:Nat->List Value->μ->Nat->OR μ)(c:AC)(e:List Value)(m:μ)(n:Nat):CR μ:=
 if h:∃k X e' m' n' r w,exec P E Y k c e m n=.ok X e' m' n' r w then exec P E Y h.choose c e m n else .no
theorem AZ{c:AC}{e:List Value}{m:μ}{n k:Nat}{X:AX}{e':List Value}{m':μ}{n' r w:Nat}(h:exec P E Y k c e m n=.ok X e' m' n' r w):dt P E Y c e m n=.ok X e' m' n' r w:=by
 have hx:∃k X e' m' n' r w,exec P E Y k c e m n=.ok X e' m' n' r w:=⟨k,X,e',m',n',r,w,h⟩
 unfold dt
 rw[dif_pos hx]
 obtain⟨X2,e2,m2,n2,r2,w2,h2⟩:=hx.choose_spec
 have a:=rk (Nat.le_max_left k hx.choose) c e m n _ _ _ _ _ _ h
 have b:=rk (Nat.le_max_right k hx.choose) c e m n _ _ _ _ _ _ h2
 rw[a]at b
 rw[h2,b]
theorem il{c:AC}{e:List Value}{m:μ}{n:Nat}{X:AX}{e':List Value}{m':μ}{n' r w:Nat}(h:dt P E Y c e m n=.ok X e' m' n' r w):∃k,exec P E Y k c e m n=.ok X e' m' n' r w:=by
 unfold dt at h
 split at h
 ·exact⟨_,h⟩
 ·cases h
theorem AY(k:Nat):Ki (exec P E Y k) (dt P E Y):=fun c e m n X e' m' n' r w h=>AZ h
def vL(x:OR μ)(y:Nat->OR μ):Prop:=∀v m n r w,x=.ok v m n r w->∃k,∀k',k<=k'->y k'=.ok v m n r w
def gO(x:CR μ)(y:Nat->CR μ):Prop:=∀X e m n r w,x=.ok X e m n r w->∃k,∀k',k<=k'->y k'=.ok X e m n r w
theorem vL.const(x:OR μ):vL x (fun _=>x):=fun _ _ _ _ _ h=>⟨0,fun _ _=>h⟩
theorem gO.const(x:CR μ):gO x (fun _=>x):=fun _ _ _ _ _ _ h=>⟨0,fun _ _=>h⟩
theorem gh(c:AC)(e:List Value)(m:μ)(n:Nat):gO (dt P E Y c e m n) (fun k=>exec P E Y k c e m n):=by
 intro X e' m' n' r w h
 obtain⟨k,hk⟩:=il h
 exact⟨k,fun k' hk'=>rk hk' c e m n _ _ _ _ _ _ hk⟩
theorem lz{x:OR μ}{y:Nat->OR μ}{f:Value->μ->Nat->Nat->Nat->CR μ}{g:Nat->Value->μ->Nat->Nat->Nat->CR μ}(h:vL x y)(hf:∀v m n r w,gO (f v m n r w) (fun k=>g k v m n r w)):gO (gq x f) (fun k=>gq (y k) (g k)):=by
 intro X e m n r w he
 cases hx:x with
 |no=>rw[hx]at he;cases he
 |ok v m1 n1 r1 w1=>
  rw[hx]at he
  obtain⟨k1,h1⟩:=h _ _ _ _ _ hx
  obtain⟨k2,h2⟩:=hf v m1 n1 r1 w1 X e m n r w he
  refine⟨max k1 k2,fun k' hk'=>?_⟩
  show gq (y k') (g k')=_
  rw[h1 k' (by omega)]
  exact h2 k' (by omega)
theorem oa{x:CR μ}{y:Nat->CR μ}{f:AX->List Value->μ->Nat->Nat->Nat->CR μ}{g:Nat->AX->List Value->μ->Nat->Nat->Nat->CR μ}(h:gO x y)(hf:∀v e m n r w,gO (f v e m n r w) (fun k=>g k v e m n r w)):gO (fY x f) (fun k=>fY (y k) (g k)):=by
 intro X e m n r w he
 cases hx:x with
 |no=>rw[hx]at he;cases he
 |ok v e1 m1 n1 r1 w1=>
  rw[hx]at he
  obtain⟨k1,h1⟩:=h _ _ _ _ _ _ hx
  obtain⟨k2,h2⟩:=hf v e1 m1 n1 r1 w1 X e m n r w he
  refine⟨max k1 k2,fun k' hk'=>?_⟩
  show fY (y k') (g k')=_
  rw[h1 k' (by omega)]
  exact h2 k' (by omega)
theorem jZ(b:Bool){x x':CR μ}{y y':Nat->CR μ}(h:gO x y)(k:gO x' y'):gO (cond b x x') (fun k=>cond b (y k) (y' k)):=by cases b<;>assumption
theorem uX(f:Nat)(args:List Value)(m:μ)(n:Nat):vL (dX E Y (dt P E Y) f args m n) (fun k=>dX E Y (exec P E Y k) f args m n):=by
 intro v m' n' r w h
 show∃k,∀k',k<=k'->Option.rec (motive:=fun _=>OR μ) (Y f args m n) (mB (exec P E Y k') args m n) (E f)=_
 replace h:Option.rec (motive:=fun _=>OR μ) (Y f args m n) (mB (dt P E Y) args m n) (E f)=_:=h
 cases hE:E f with
 |none=>rw[hE]at h;exact⟨0,fun _ _=>h⟩
 |some fn=>
  rw[hE]at h
  replace h:cond (Nat.beq (gx args) fn.na) (CR.rec (motive:=fun _=>OR μ) .no (fun x e m' n' r w=>ig fn m n e m' n' r w x) (dt P E Y fn.code args m n)) .no=_:=h
  show∃k,∀k',k<=k'->cond (Nat.beq (gx args) fn.na) (CR.rec (motive:=fun _=>OR μ) .no (fun x e m' n' r w=>ig fn m n e m' n' r w x) (exec P E Y k' fn.code args m n)) .no=_
  cases hb:Nat.beq (gx args) fn.na
  ·rw[hb]at h;cases h
  ·rw[hb,cond_true]at h
   cases hx:dt P E Y fn.code args m n with
   |no=>rw[hx]at h;cases h
   |ok X e2 m2 n2 r2 w2=>
    rw[hx]at h
    obtain⟨k,hk⟩:=gh fn.code args m n _ _ _ _ _ _ hx
    exact⟨k,fun k' hk'=>by
     have hk2:exec P E Y k' fn.code args m n=_:=hk k' hk'
     rw[hk2,cond_true];exact h⟩
theorem mK(e:List Value)(m:μ)(n:Nat)(o:AOp):vL (dJ P (dX E Y (dt P E Y)) e m n o) (fun k=>dJ P (dX E Y (exec P E Y k)) e m n o):=by
 cases o
 case call f args=>exact uX f _ m n
 case callv x args=>
  show vL (ju (dX E Y (dt P E Y)) (evs e args) m n (ev e x)) (fun k=>ju (dX E Y (exec P E Y k)) (evs e args) m n (ev e x))
  generalize ev e x=v
  unfold ju
  split
  ·exact uX _ _ m n
  ·exact vL.const _
 all_goals exact vL.const _
theorem DX:∀(l:List AI) (e:List Value) (m:μ) (n r w:Nat),gO (gD P (dX E Y (dt P E Y)) l e m n r w) (fun k=>gD P (dX E Y (exec P E Y k)) l e m n r w)
 |[],e,m,n,r,w=>gO.const _
 |i::l,e,m,n,r,w=>by
  have ih:=DX l
  cases i with
  |nop i=>exact ih e m n r w
  |op o=>exact lz (mK e m n o) fun v m n r' w'=>ih _ m n _ _
  |eff o=>exact lz (mK e m n o) fun v m n r' w'=>ih _ m n _ _
  |opg o gi gw=>exact jZ _ (lz (mK e m n o) fun v m n r' w'=>ih _ m n _ _) (ih _ m n r w)
  |effg o gi gw=>exact jZ _ (lz (mK e m n o) fun v m n r' w'=>ih _ m n _ _) (ih _ m n r w)
theorem D7{bef q:Nat}{done:List (Nat×Nat×Nat)}{x:OR μ}{y:Nat->OR μ}{f:Value->μ->Nat->Nat->Nat->List (Nat×Nat×Nat)->CR μ}{g:Nat->Value->μ->Nat->Nat->Nat->List (Nat×Nat×Nat)->CR μ}(h:vL x y)(hf:∀v m n r w d,gO (f v m n r w d) (fun k=>g k v m n r w d)):
  gO (okD bef q done x f) (fun k=>okD bef q done (y k) (g k)):=by
 refine lz (g:=fun k v m n r w=>jV r fun r=>jV w fun w=>cond (Nat.beq (Nat.lor r w) 0) (g k v m n r w done) (cond (apart bef r w done) (g k v m n r w ((q,r,w)::done)) .no)) h fun v m n r w=>?_
 rw[dT,dT]
 simp only[dT]
 exact jZ _ (hf v m n r w _) (jZ _ (hf v m n r w _) (gO.const _))
theorem wo(e:List Value)(m:μ)(n:Nat)(o:AOp):vL (eH P (dX E Y (dt P E Y)) e m n o) (fun k=>eH P (dX E Y (exec P E Y k)) e m n o):=by
 unfold eH
 cases j8 n e o
 ·exact vL.const _
 ·exact mK e m n o
theorem Ag:∀(l:List AI) (bs:List Nat) (q:Nat) (done:List (Nat×Nat×Nat)) (e:List Value) (m:μ) (n r w:Nat),gO (fH P (dX E Y (dt P E Y)) l bs q done e m n r w) (fun k=>fH P (dX E Y (exec P E Y k)) l bs q done e m n r w)
 |[],bs,q,done,e,m,n,r,w=>gO.const _
 |i::l,bs,q,done,e,m,n,r,w=>by
  have ih:=Ag l
  have h1:∀o,gO (okD (bs.headD 0) q done (eH P (dX E Y (dt P E Y)) e m n o) fun v m n r' w' done=>fH P (dX E Y (dt P E Y)) l bs.tail (Nat.succ q) done (v::e) m n (Nat.lor r r') (Nat.lor w w'))
    (fun k=>okD (bs.headD 0) q done (eH P (dX E Y (exec P E Y k)) e m n o) fun v m n r' w' done=>fH P (dX E Y (exec P E Y k)) l bs.tail (Nat.succ q) done (v::e) m n (Nat.lor r r') (Nat.lor w w')):=fun o=>
   D7 (wo e m n o) fun v m n r' w' d=>ih _ _ _ _ m n _ _
  have h2:∀o,gO (okD (bs.headD 0) q done (eH P (dX E Y (dt P E Y)) e m n o) fun _ m n r' w' done=>fH P (dX E Y (dt P E Y)) l bs.tail (Nat.succ q) done e m n (Nat.lor r r') (Nat.lor w w'))
    (fun k=>okD (bs.headD 0) q done (eH P (dX E Y (exec P E Y k)) e m n o) fun _ m n r' w' done=>fH P (dX E Y (exec P E Y k)) l bs.tail (Nat.succ q) done e m n (Nat.lor r r') (Nat.lor w w')):=fun o=>
   D7 (wo e m n o) fun v m n r' w' d=>ih _ _ _ _ m n _ _
  cases i with
  |nop i=>exact ih _ _ _ e m n r w
  |op o=>exact h1 o
  |eff o=>exact h2 o
  |opg o gi gw=>exact jZ _ (h1 o) (ih _ _ _ _ m n r w)
  |effg o gi gw=>exact jZ _ (h2 o) (ih _ _ _ _ m n r w)
theorem Gm(r w:Nat){x:CR μ}{y:Nat->CR μ}(h:gO x y):gO (fP r w x) (fun k=>fP r w (y k)):=by
 intro X e m n r' w' he
 cases hx:x with
 |no=>rw[hx]at he;cases he
 |ok X1 e1 m1 n1 r1 w1=>
  rw[hx]at he
  obtain⟨k,hk⟩:=h _ _ _ _ _ _ hx
  exact⟨k,fun k' hk'=>by show fP r w (y k')=_;rw[hk k' hk'];exact he⟩
theorem uk{f:List Value->μ->Nat->CR μ}{g:Nat->List Value->μ->Nat->CR μ}(h:∀e m n,gO (f e m n) (fun k=>g k e m n))(X:AX)(e:List Value)(m:μ)(n r w:Nat):gO (fI f X e m n r w) (fun k=>fI (g k) X e m n r w):=by
 cases X with
 |norm=>exact Gm r w (h e m n)
 |exit i=>exact gO.const _
 |ret v=>exact gO.const _
theorem gG(c:AC)(e:List Value)(m:μ)(n:Nat):dt P E Y c e m n=uH P (dX E Y (dt P E Y)) (dt P E Y) c e m n:=by
 have key:gO (uH P (dX E Y (dt P E Y)) (dt P E Y) c e m n) (fun k=>uH P (dX E Y (exec P E Y k)) (exec P E Y k) c e m n):=by
  cases c with
  |skip=>exact gO.const _
  |reg l=>exact DX l e m n 0 0
  |regD l bs=>exact Ag l bs 0 [] e m n 0 0
  |seq x y=>exact oa (g:=fun k=>fI (exec P E Y k y)) (gh x e m n) fun X e m n r w=>uk (gh y) X e m n r w
  |cond o x y=>
   show gO (ic (dt P E Y x e m n) (dt P E Y y e m n) (ev e o)) (fun k=>ic (exec P E Y k x e m n) (exec P E Y k y e m n) (ev e o))
   generalize ev e o=v
   unfold ic
   split
   ·exact jZ _ (gh x e m n) (gh y e m n)
   ·exact gO.const _
  |block id sh x=>exact oa (g:=fun _=>kx id) (gh x e m n) fun X e m n r w=>gO.const _
  |loop sh x=>exact oa (g:=fun k=>fI (exec P E Y k (.loop sh x))) (gh x e m n) fun X e m n r w=>uk (gh _) X e m n r w
  |pre sel d x=>exact gh x _ m n
  |post x sel d=>exact oa (g:=fun _=>mZ sel d) (gh x e m n) fun X e m n r w=>gO.const _
  |exit id=>exact gO.const _
  |ret rs=>exact gO.const _
 have hle:CLe (dt P E Y c e m n) (uH P (dX E Y (dt P E Y)) (dt P E Y) c e m n):=by
  intro X e' m' n' r w h
  obtain⟨k,hk⟩:=il h
  have hs:=nZ k c e m n _ _ _ _ _ _ hk
  exact A0 (EJ (AY k)) (AY k) c e m n _ _ _ _ _ _ hs
 cases hx:uH P (dX E Y (dt P E Y)) (dt P E Y) c e m n with
 |no=>
  cases hw:dt P E Y c e m n with
  |no=>rfl
  |ok X e' m' n' r w=>have:=hle _ _ _ _ _ _ hw;rw[hx]at this;cases this
 |ok X e' m' n' r w=>
  obtain⟨k,hk⟩:=key _ _ _ _ _ _ hx
  exact AZ (k:=k+1) (hk k (Nat.le_refl _))
end
section
variable{μ:Type}[AMem μ]{P:Program}{E:Nat->Option AFn}{Y:Nat->List Value->μ->Nat->OR μ}{e:List Value}{m:μ}{n:Nat}
theorem Gz:dt P E Y .skip e m n=.ok .norm e m n 0 0:=gG ..
theorem MG(l:List AI):dt P E Y (.reg l) e m n=gD P (dX E Y (dt P E Y)) l e m n 0 0:=gG ..
theorem NL(l:List AI)(bs:List Nat):dt P E Y (.regD l bs) e m n=fH P (dX E Y (dt P E Y)) l bs 0 [] e m n 0 0:=gG ..
theorem ME(a b:AC):dt P E Y (.seq a b) e m n=fY (dt P E Y a e m n) (fI (dt P E Y b)):=gG ..
theorem NO(x:Opd)(a b:AC):dt P E Y (.cond x a b) e m n=ic (dt P E Y a e m n) (dt P E Y b e m n) (ev e x):=gG ..
theorem Ko(id:Nat)(sh:List (List Nat))(b:AC):dt P E Y (.block id sh b) e m n=fY (dt P E Y b e m n) (kx id):=gG ..
theorem NN(sh:List (List Nat))(b:AC):dt P E Y (.loop sh b) e m n=fY (dt P E Y b e m n) (fI (dt P E Y (.loop sh b))):=gG ..
theorem MH(sel:List Nat)(d:Nat)(c:AC):dt P E Y (.pre sel d c) e m n=dt P E Y c (AV sel d e) m n:=gG ..
theorem NM(c:AC)(sel:List Nat)(d:Nat):dt P E Y (.post c sel d) e m n=fY (dt P E Y c e m n) (mZ sel d):=gG ..
theorem GA(id:Nat):dt P E Y (.exit id) e m n=.ok (.exit id) e m n 0 0:=gG ..
theorem MF(rs:List ROp):dt P E Y (.ret rs) e m n=ov e m n (lq e m n rs):=gG ..
end
section
variable{μ:Type}[AMem μ]{P:Program}{rec:Nat->List Value->μ->Nat->OR μ}
inductive OS(μ:Type) where
 |no
 |ok (e:List Value) (m:μ) (n r w:Nat)
noncomputable def dF(e:List Value)(r w:Nat):OR μ->OS μ
 | .no=>.no
 | .ok v m n r' w'=>.ok (v::e) m n (Nat.lor r r') (Nat.lor w w')
noncomputable def uM(e:List Value)(r w:Nat):OR μ->OS μ
 | .no=>.no
 | .ok _ m n r' w'=>.ok e m n (Nat.lor r r') (Nat.lor w w')
noncomputable def jJ(P:Program)(rec:Nat->List Value->μ->Nat->OR μ):OS μ->AI->OS μ
 | .no,_=>.no
 | .ok e m n r w,.nop _=>.ok e m n r w
 | .ok e m n r w,.op o=>dF e r w (dJ P rec e m n o)
 | .ok e m n r w,.eff o=>uM e r w (dJ P rec e m n o)
 | .ok e m n r w,.opg o gi gw=>cond (dQ gw (ey e gi)) (dF e r w (dJ P rec e m n o)) (.ok (undef::e) m n r w)
 | .ok e m n r w,.effg o gi gw=>cond (dQ gw (ey e gi)) (uM e r w (dJ P rec e m n o)) (.ok e m n r w)
noncomputable def mN(P:Program)(rec:Nat->List Value->μ->Nat->OR μ)(l:List AI)(s:OS μ):OS μ:=l.foldl (jJ P rec) s
def qV:OS μ->CR μ
 | .no=>.no
 | .ok e m n r w=>.ok .norm e m n r w
theorem DE(l:List AI):mN P rec l .no=.no:=by
 induction l with
 |nil=>rfl
 |cons i l ih=>show mN P rec l (jJ P rec .no i)=_;cases i<;>exact ih
theorem DW:∀(l:List AI) (e:List Value) (m:μ) (n r w:Nat),gD P rec l e m n r w=qV (mN P rec l (.ok e m n r w))
 |[],e,m,n,r,w=>o_nil
 |i::l,e,m,n,r,w=>by
  have ih:=DW l
  have hk:∀x:OR μ,gq x (fun v m n r' w'=>gD P rec l (v::e) m n (Nat.lor r r') (Nat.lor w w'))=qV (mN P rec l (dF e r w x)):=fun x=>by
   cases x with
   |no=>show CR.no=qV (mN P rec l .no);rw[DE];rfl
   |ok v m1 n1 r1 w1=>exact ih _ m1 n1 _ _
  have hd:∀x:OR μ,gq x (fun _ m n r' w'=>gD P rec l e m n (Nat.lor r r') (Nat.lor w w'))=qV (mN P rec l (uM e r w x)):=fun x=>by
   cases x with
   |no=>show CR.no=qV (mN P rec l .no);rw[DE];rfl
   |ok v m1 n1 r1 w1=>exact ih _ m1 n1 _ _
  cases i with
  |nop i=>exact ih e m n r w
  |op o=>exact hk _
  |eff o=>exact hd _
  |opg o gi gw=>
   show cond (dQ gw (ey e gi)) (gq (dJ P rec e m n o) fun v m n r' w'=>gD P rec l (v::e) m n (Nat.lor r r') (Nat.lor w w')) (gD P rec l (undef::e) m n r w)=qV (mN P rec l (cond (dQ gw (ey e gi)) (dF e r w (dJ P rec e m n o)) (.ok (undef::e) m n r w)))
   cases dQ gw (ey e gi)
   ·exact ih _ m n r w
   ·exact hk _
  |effg o gi gw=>
   show cond (dQ gw (ey e gi)) (gq (dJ P rec e m n o) fun _ m n r' w'=>gD P rec l e m n (Nat.lor r r') (Nat.lor w w')) (gD P rec l e m n r w)=qV (mN P rec l (cond (dQ gw (ey e gi)) (uM e r w (dJ P rec e m n o)) (.ok e m n r w)))
   cases dQ gw (ey e gi)
   ·exact ih e m n r w
   ·exact hd _
theorem MZ(e:List Value)(m:μ)(n r w i:Nat):jJ P rec (.ok e m n r w) (.nop i)=.ok e m n r w:=rfl
theorem q_op(e:List Value)(m:μ)(n r w:Nat)(o:AOp):jJ P rec (.ok e m n r w) (.op o)=dF e r w (dJ P rec e m n o):=rfl
theorem Na(e:List Value)(m:μ)(n r w:Nat)(o:AOp):jJ P rec (.ok e m n r w) (.eff o)=uM e r w (dJ P rec e m n o):=rfl
theorem MY(e:List Value)(m:μ)(n r w gi:Nat)(gw:Bool)(o:AOp):jJ P rec (.ok e m n r w) (.opg o gi gw)=cond (dQ gw (ey e gi)) (dF e r w (dJ P rec e m n o)) (.ok (undef::e) m n r w):=rfl
theorem Hj(e:List Value)(m:μ)(n r w gi:Nat)(gw:Bool)(o:AOp):jJ P rec (.ok e m n r w) (.effg o gi gw)=cond (dQ gw (ey e gi)) (uM e r w (dJ P rec e m n o)) (.ok e m n r w):=rfl
theorem Em(e:List Value)(m:μ)(v:Value)(n r w r' w':Nat):dF e r w (.ok v m n r' w')=.ok (v::e) m n (Nat.lor r r') (Nat.lor w w'):=rfl
theorem A7(e:List Value)(m:μ)(v:Value)(n r w r' w':Nat):uM e r w (.ok v m n r' w')=.ok e m n (Nat.lor r r') (Nat.lor w w'):=rfl
theorem Hp(e:List Value)(m:μ)(n r w:Nat):qV (.ok e m n r w)=.ok .norm e m n r w:=rfl
end
section
variable{μ:Type}[AMem μ]{P:Program}{E:Nat->Option AFn}{Y:Nat->List Value->μ->Nat->OR μ}{e:List Value}{m:μ}{n:Nat}
noncomputable def df(P:Program)(E:Nat->Option AFn)(Y:Nat->List Value->μ->Nat->OR μ):Nat->List Value->μ->Nat->OR μ:=dX E Y (dt P E Y)
theorem MJ(l:List AI):dt P E Y (.reg l) e m n=qV (mN P (df P E Y) l (.ok e m n 0 0)):=by rw[MG,DW];rfl
noncomputable def rf(fn:AFn)(m0:μ)(n0:Nat):CR μ->OR μ
 | .no=>.no
 | .ok X e m n r w=>ig fn m0 n0 e m n r w X
theorem gZ{f:Nat}{fn:AFn}{args:List Value}(hE:E f=some fn)(ha:gx args=fn.na):df P E Y f args m n=rf fn m n (dt P E Y fn.code args m n):=by
 show Option.rec (motive:=fun _=>OR μ) (Y f args m n) (mB (dt P E Y) args m n) (E f)=_
 rw[hE]
 show cond (Nat.beq (gx args) fn.na) (CR.rec (motive:=fun _=>OR μ) .no (fun x e m' n' r w=>ig fn m n e m' n' r w x) (dt P E Y fn.code args m n)) .no=_
 rw[ha,Nat.beq_refl]
 cases dt P E Y fn.code args m n<;>rfl
theorem iu{fn:AFn}{m0:μ}{n0:Nat}(e:List Value)(v:Value)(n r w:Nat):rf fn m0 n0 (.ok (.ret v) e m n r w)=eX m0 n0 v m n r w:=rfl
theorem rY{m0:μ}{n0:Nat}{v:Value}{n r w:Nat}(hv:du v=true)(hw:Nat.mod w (bit n0)=0):eX m0 n0 v m n r w=.ok v m0 n0 (Nat.mod r (bit n0)) 0:=by
 unfold eX
 rw[hv,hw]
 show cond (true&&Nat.beq 0 0) _ _=_
 rw[dT];rfl
theorem nj{m0:μ}{n0:Nat}{v:Value}{n r w:Nat}(hv:du v=false):eX m0 n0 v m n r w=.ok v m n r w:=by
 unfold eX
 rw[hv];rfl
end
theorem rJ(w:Bool):dQ w undef=false:=rfl
theorem ur(k:IntKind):eN (.int k 0)=some 0:=rfl
theorem wM(k:IntKind):eN (.int k 1)=some 1:=rfl
theorem An(k:IntKind)(i:Nat):eN (.int k (i:Int))=some i:=rfl
theorem um(f:Nat->Option Value)(i:Nat):rS f (some i)=f i:=rfl
def Sl(m:FM)(n:Nat)(v:Value)(vs:List Value):Prop:=
 (v=.slice none 0 0/\vs=[])\/(∃b o cap c opn wr,v=.slice (some ⟨b,o,none⟩) vs.length cap/\b<n/\m b=some (.cells c 1 opn wr)/\∀(i:Nat) x,vs[i]?=some x->c[o+i]?=some x)\/
 (v=.slice (some ⟨0,0,none⟩) 0 VAG/\vs=[]/\0<n)
theorem Sl.len{m:FM}{n:Nat}{v:Value}{vs:List Value}(h:Sl m n v vs):jS false v=some (.int .i64 (vs.length:Int)):=by
 rcases h with⟨rfl,rfl⟩|⟨b,o,cap,c,opn,wr,rfl,_⟩|⟨rfl,rfl,_⟩<;>rfl
theorem eS{m:FM}{n b:Nat}(h:b<n):fg m n b=m b:=by
 show cond (Nat.blt b n) (m b) none=m b
 rw[show Nat.blt b n=true from Nat.ble_eq_true_of_le h];rfl
theorem Sl.at{m:FM}{n:Nat}{v:Value}{vs:List Value}(h:Sl m n v vs){i:Nat}{x:Value}(hx:vs[i]?=some x):∃a b,fU 1 i v=some (.pointer (some a))/\rh m n (.pointer (some a))=.ok x m n (bit b) 0/\b<n:=by
 rcases h with⟨rfl,rfl⟩|⟨b,o,cap,c,opn,wr,rfl,hb,hm,hc⟩|⟨rfl,rfl,_⟩
 ·simp at hx
 ·have hi:i<vs.length:=(List.getElem?_eq_some_iff.1 hx).1
  refine⟨⟨b,o+i*1,none⟩,b,?_,?_,hb⟩
  ·show cond (Nat.blt i vs.length) _ none=_
   rw[show Nat.blt i vs.length=true from Nat.ble_eq_true_of_le hi];rfl
  ·show iq (fg m n b) (fun c=>lP m n b (fh c (o+i*1)))=_
   rw[eS hb,hm,Nat.mul_one]
   show lP m n b (fh c (o+i))=_
   rw[eV,hc i x hx];rfl
 ·simp at hx
def pt(m:FM)(n:Nat)(v:Value)(xs:List Int):Prop:=Sl m n v (xs.map (Value.int .i64))
theorem pt.len{m:FM}{n:Nat}{v:Value}{xs:List Int}(h:pt m n v xs):jS false v=some (.int .i64 (xs.length:Int)):=by
 have:=Sl.len h;rwa [List.length_map]at this
theorem pt.at{m:FM}{n:Nat}{v:Value}{xs:List Int}(h:pt m n v xs){i:Nat}(hi:i<xs.length):∃a b,fU 1 i v=some (.pointer (some a))/\rh m n (.pointer (some a))=.ok (.int .i64 xs[i]) m n (bit b) 0/\b<n:=
 Sl.at h (by rw[List.getElem?_map,List.getElem?_eq_getElem hi];rfl)
theorem wrap_small{z:Int}(h:-9223372036854775808<=z)(h':z<9223372036854775808):IntKind.i64.wrap z=z:=ja h h'
def Gv(x:CR FM)(Q:AX->List Value->FM->Nat->Nat->Prop):Prop:=
 match x with
 | .no=>False
 | .ok X e m n _ w=>Q X e m n w
theorem Gv.mono{x:CR FM}{Q Q':AX->List Value->FM->Nat->Nat->Prop}(h:Gv x Q)(hq:∀X e m n w,Q X e m n w->Q' X e m n w):Gv x Q':=by
 cases x with
 |no=>exact h
 |ok X e m n r w=>exact hq _ _ _ _ _ h
theorem PZ(r w:Nat)(x:CR FM)(Q:AX->List Value->FM->Nat->Nat->Prop):Gv (fP r w x) Q=Gv x (fun X e m n w'=>Q X e m n (Nat.lor w w')):=by cases x<;>rfl
theorem fX{x:CR FM}{Q:AX->List Value->FM->Nat->Nat->Prop}(h:Gv x Q):∃X e m n r w,x=.ok X e m n r w/\Q X e m n w:=by
 cases x with
 |no=>exact h.elim
 |ok X e m n r w=>exact⟨X,e,m,n,r,w,rfl,h⟩
def Pure(x:OR FM)(m:FM)(n:Nat)(v:Value):Prop:=∃r,x=.ok v m n r 0
theorem DO{fn:AFn}{m0:FM}{n0:Nat}{x:CR FM}{v:Value}(hv:du v=true)(h:Gv x fun X _ _ _ w=>X=.ret v/\Nat.mod w (bit n0)=0):Pure (rf fn m0 n0 x) m0 n0 v:=by
 obtain⟨X,e,m,n,r,w,rfl,rfl,hw⟩:=fX h
 rw[iu]
 exact⟨_,rY hv hw⟩
end Go.Am
namespace Go.Am.CD
open Go Go.Am
variable{v:Value}{args ys:List Value}{base r:Nat}
section
variable{P:Program}{E:Nat->Option AFn}{Y:Nat->List Value->FM->Nat->OR FM}{e:List Value}{m:FM}{n:Nat}
end
noncomputable abbrev PG:Program:=Proofs.Tryz.prog
noncomputable def NR:List (Nat×AFn):=tab.filter fun p=>!Nat.beq p.1 4
noncomputable def EL:Nat->Option AFn:=look NR
theorem e3:EL 3=some ac3:=rfl
theorem e4:EL 4=none:=rfl
theorem e5:EL 5=some ac5:=rfl
theorem e6:EL 6=some ac6:=rfl
theorem e7:EL 7=some ac7:=rfl
theorem e8:EL 8=some ac8:=rfl
theorem e9:EL 9=some ac9:=rfl
theorem e10:EL 10=some Mv:=rfl
theorem e11:EL 11=some Mt:=rfl
theorem e12:EL 12=some JZ:=rfl
theorem e13:EL 13=some PX:=rfl
theorem e14:EL 14=some PW:=rfl
theorem e15:EL 15=some PV:=rfl
theorem e16:EL 16=some PU:=rfl
theorem e17:EL 17=some PT:=rfl
theorem e20:EL 20=some PR:=rfl
theorem e21:EL 21=some PQ:=rfl
theorem e22:EL 22=some PP:=rfl
theorem e23:EL 23=some PO:=rfl
theorem e24:EL 24=some PN:=rfl
theorem e25:EL 25=some PM:=rfl
theorem e26:EL 26=some PL:=rfl
theorem e27:EL 27=some PK:=rfl
theorem e28:EL 28=some PJ:=rfl
theorem e29:EL 29=some PI:=rfl
theorem e30:EL 30=some L5:=rfl
theorem e31:EL 31=some PF:=rfl
theorem e32:EL 32=some L4:=rfl
theorem e33:EL 33=some PE:=rfl
theorem e34:EL 34=some PD:=rfl
theorem e35:EL 35=some PB:=rfl
theorem e36:EL 36=some PA:=rfl
theorem e37:EL 37=some Pz:=rfl
theorem e38:EL 38=some Py:=rfl
theorem e39:EL 39=some Px:=rfl
theorem e41:EL 41=some Pv:=rfl
theorem e42:EL 42=some Pu:=rfl
theorem e54:EL 54=some Pm:=rfl
theorem e56:EL 56=some Pk:=rfl
theorem e57:EL 57=some Pj:=rfl
theorem e58:EL 58=some I8:=rfl
theorem e59:EL 59=some Ph:=rfl
theorem e60:EL 60=some Pg:=rfl
theorem e61:EL 61=some Pf:=rfl
theorem e62:EL 62=some Pe:=rfl
theorem e63:EL 63=some Pd:=rfl
theorem e64:EL 64=some Pc:=rfl
theorem e65:EL 65=some Pb:=rfl
theorem e66:EL 66=some Pa:=rfl
theorem e67:EL 67=some O9:=rfl
theorem e69:EL 69=some O8:=rfl
theorem e70:EL 70=some LS:=rfl
theorem e71:EL 71=some O7:=rfl
theorem e72:EL 72=some O6:=rfl
theorem e73:EL 73=some O5:=rfl
theorem e74:EL 74=some OZ:=rfl
theorem e75:EL 75=some OY:=rfl
theorem e76:EL 76=some OX:=rfl
theorem e77:EL 77=some OW:=rfl
theorem e78:EL 78=some OV:=rfl
theorem e79:EL 79=some OU:=rfl
theorem e80:EL 80=some LR:=rfl
theorem e81:EL 81=some OT:=rfl
theorem e101:EL 101=some Ke:=rfl
theorem e102:EL 102=some Kd:=rfl
theorem e103:EL 103=some Kc:=rfl
theorem e104:EL 104=some Fb:=rfl
theorem e105:EL 105=some E':=rfl
theorem e106:EL 106=some Kb:=rfl
theorem e107:EL 107=some Ka:=rfl
theorem e108:EL 108=some J':=rfl
theorem e109:EL 109=some J9:=rfl
theorem e110:EL 110=some J8:=rfl
theorem e111:EL 111=some J7:=rfl
theorem e112:EL 112=some J6:=rfl
theorem e113:EL 113=some J5:=rfl
theorem e114:EL 114=some J4:=rfl
theorem e115:EL 115=some J3:=rfl
theorem e116:EL 116=some J2:=rfl
theorem e117:EL 117=some J1:=rfl
theorem e118:EL 118=some E8:=rfl
theorem e119:EL 119=some J0:=rfl
theorem e120:EL 120=some JY:=rfl
theorem e121:EL 121=some JX:=rfl
theorem e122:EL 122=some JW:=rfl
theorem e123:EL 123=some JV:=rfl
theorem e124:EL 124=some JU:=rfl
theorem e125:EL 125=some BO:=rfl
theorem e126:EL 126=some JT:=rfl
theorem e127:EL 127=some JS:=rfl
theorem e128:EL 128=some E7:=rfl
theorem e146:EL 146=some JH:=rfl
theorem e147:EL 147=some JG:=rfl
theorem e148:EL 148=some JF:=rfl
theorem e149:EL 149=some JE:=rfl
theorem e150:EL 150=some JD:=rfl
theorem e151:EL 151=some JC:=rfl
theorem e152:EL 152=some JB:=rfl
theorem e153:EL 153=some JA:=rfl
theorem e154:EL 154=some Jz:=rfl
theorem e155:EL 155=some Jy:=rfl
theorem e156:EL 156=some Jx:=rfl
theorem e157:EL 157=some Jw:=rfl
theorem e159:EL 159=some Jv:=rfl
theorem e160:EL 160=some Ju:=rfl
theorem e161:EL 161=some E6:=rfl
theorem e170:EL 170=some Jt:=rfl
theorem e171:EL 171=some Js:=rfl
theorem e172:EL 172=some E5:=rfl
theorem e173:EL 173=some E4:=rfl
theorem e200:EL 200=some Jh:=rfl
theorem e201:EL 201=some Jg:=rfl
theorem e202:EL 202=some Jf:=rfl
theorem e203:EL 203=some Je:=rfl
theorem e210:EL 210=some Jd:=rfl
theorem e220:EL 220=some I':=rfl
theorem e225:EL 225=some E0:=rfl
open Go Go.Am Go.Am.V Go.RowKit
def og(bs:List Blk)(n:Nat)(m:FM):FM:=fun b=>if n<=b/\b<n+bs.length then bs[b-n]? else m b
theorem HQ{bs:List Blk}{n i:Nat}{m:FM}(h:i<bs.length):og bs n m (n+i)=bs[i]?:=by
 unfold og
 rw[if_pos (by omega),Nat.add_sub_cancel_left]
theorem p9(bs:List Blk)(n:Nat)(m:FM):Loc (μ:=FM) m n (og bs n m) (n+bs.length) (qX n bs.length):=by
 refine⟨Nat.le_add_right _ _,fun b hb=>?_,fun b h1 h2=>by rw[lD];simp;omega⟩
 rw[lD]at hb
 show og bs n m b=m b
 unfold og
 rw[if_neg]
 intro hh
 simp at hb
 omega
theorem nT{ρ:Ren}{V:Nat->Option Blk}{w w':World}{B n:Nat}(hm:MRel ρ V w B)(hfree:gI ρ n)(m:FM)(bs:List Blk)(ps:List Place)(hl:ps.length=bs.length)(hbw:Below w.heap.size w w')
  (hps:∀p∈ps,w.heap.size<=p.blk/\p.blk<w'.heap.size) (hnw:∀O∈bs,O.wr=false)
  (hr:∀ρ':Ren,ρ.le ρ'->(∀(i:Nat) p,ps[i]?=some p->ρ' (n+i)=some p)->∀(i:Nat) p O,ps[i]?=some p->bs[i]?=some O->jC ρ' w' B p O):
  ∃ρ':Ren,(∀(i:Nat) p,ps[i]?=some p->ρ' (n+i)=some p)/\Post ρ V w B n (og bs n m) (n+bs.length) (qX n bs.length) ρ' w':=by
 obtain⟨ρ',hρ'⟩:∃ρ':Ren,ρ'=fun b=>if b<n then ρ b else ps[b-n]?:=⟨_,rfl⟩
 have hold:∀b,b<n->ρ' b=ρ b:=fun b hb=>by rw[hρ'];simp[hb]
 have hnew:∀(i:Nat) p,ps[i]?=some p->ρ' (n+i)=some p:=fun i p hi=>by
  rw[hρ']
  simp only[if_neg (show¬n+i<n by omega),Nat.add_sub_cancel_left]
  exact hi
 have hle:ρ.le ρ':=fun b p hb=>by
  by_cases hbn:b<n
  ·rw[hold b hbn];exact hb
  ·rw[hfree b (by omega)]at hb;cases hb
 have hinv:∀b p,ρ' b=some p->(b<n/\ρ b=some p)\/(∃i,i<bs.length/\b=n+i/\ps[i]?=some p):=fun b p hb=>by
  by_cases h1:b<n
  ·exact .inl ⟨h1,by rw[<-hold b h1];exact hb⟩
  ·rw[hρ']at hb
   simp only[if_neg h1]at hb
   have:=(List.getElem?_eq_some_iff.1 hb).1
   exact .inr ⟨b-n,by omega,by omega,hb⟩
 have hupo:∀b,b<n->upd V (qX n bs.length) (og bs n m) b=V b:=fun b hb=>by
  unfold upd
  rw[lD,if_neg (by simp;omega)]
 have hupn:∀i,i<bs.length->upd V (qX n bs.length) (og bs n m) (n+i)=bs[i]?:=fun i hi=>by
  unfold upd
  rw[lD,if_pos (by simp;omega)]
  exact HQ hi
 refine⟨ρ',hnew,hle,fun b p hb=>?_,⟨fun b p O hb hO=>?_,fun b1 b2 p1 p2 O1 O2 h1 h2 hO1 hO2 hne hw1=>?_,fun b p hb'=>?_,Nat.le_trans hm.le hbw.size,hm.gl.mono (hbw.mono hm.le)⟩,hbw.mono hm.le,Nat.le_add_right _ _,fun k hk _=>hbw.block k hk,fun b p hb'=>?_,fun b hb'=>?_⟩
 ·rcases hinv b p hb with⟨h1,h2⟩|⟨i,hi,rfl,h2⟩
  ·exact .inl h2
  ·exact .inr ⟨by omega,by omega⟩
 ·rcases hinv b p hb with⟨h1,h2⟩|⟨i,hi,rfl,h2⟩
  ·rw[hupo b h1]at hO
   exact(hm.blk b p O h2 hO).mono hle (hbw.block _ (hm.fresh b p h2))
  ·rw[hupn i hi]at hO
   exact hr ρ' hle hnew i p O h2 hO
 ·rcases hinv b1 p1 h1 with⟨k1,k2⟩|⟨i1,hi1,rfl,k2⟩<;>rcases hinv b2 p2 h2 with⟨q1,q2⟩|⟨i2,hi2,rfl,q2⟩
  ·rw[hupo b1 k1]at hO1
   rw[hupo b2 q1]at hO2
   exact hm.excl b1 b2 p1 p2 O1 O2 k2 q2 hO1 hO2 hne hw1
  ·have:=hm.fresh b1 p1 k2
   have:=(hps p2 (List.mem_of_getElem? q2)).1
   omega
  ·have:=hm.fresh b2 p2 q2
   have:=(hps p1 (List.mem_of_getElem? k2)).1
   omega
  ·rw[hupn i1 hi1]at hO1
   have:=hnw O1 (List.mem_of_getElem? hO1)
   rw[this]at hw1;cases hw1
 ·rcases hinv b p hb' with⟨h1,h2⟩|⟨i,hi,rfl,h2⟩
  ·exact Nat.lt_of_lt_of_le (hm.fresh b p h2) hbw.size
  ·exact(hps p (List.mem_of_getElem? h2)).2
 ·rcases hinv b p hb' with⟨h1,h2⟩|⟨i,hi,rfl,h2⟩
  ·exact .inl h2
  ·exact .inr (.inl (hps p (List.mem_of_getElem? h2)).1)
 ·rw[lD]at hb'
  simp at hb'
  have hi:b-n<ps.length:=by omega
  refine⟨⟨ps[b-n],?_⟩,fun h=>by omega⟩
  have:=hnew (b-n) _ (List.getElem?_eq_getElem hi)
  rwa [show n+(b-n)=b by omega]at this
def placeOf:Value->Place
 | .slice (some a) _ c=>⟨a.block,0,c,1⟩
 |_=>⟨0,0,0,1⟩
theorem xN{ρ:Ren}{args':Array Value}(hargs:dO ρ args args'.toList)(h1:args.all flat=true):args'=args.toArray:=by
 apply Array.ext'
 apply List.ext_getElem?
 intro i
 show args'.toList[i]?=args[i]?
 cases ha:args[i]? with
 |none=>
  have hl:=hargs.1
  rw[List.getElem?_eq_none_iff]at ha ⊢
  omega
 |some x=>
  have hi:i<args'.toList.length:=by rw[<-hargs.1];exact(List.getElem?_eq_some_iff.1 ha).1
  have hy:args'.toList[i]?=some args'.toList[i]:=List.getElem?_eq_getElem hi
  have:=(hargs.2 i _ _ ha hy).dN (List.all_eq_true.1 h1 x (List.mem_of_getElem? ha))
  rw[hy,this]
theorem j5{ρ:Ren}{w:World}{B e n:Nat}{xs:List Value}(h:w.ownsRow base e 1 v n ys)(hn:n≠0)(hxy:dO ρ xs ys):
  jC ρ w B (placeOf v) (.cells xs 1 false false)/\∃g cap,v=.slice (some ⟨g,0,none⟩) n cap/\n<=cap/\base<=g/\g<w.heap.size:=by
 obtain⟨hl,h2⟩:=h
 rcases h2 with⟨_,h0⟩|⟨g,cap,cur,rfl,hb,hg,hc,_,hs,ht⟩
 ·exact absurd h0 hn
 ·refine⟨⟨rfl,cur,e,(0,0),hg,fun i x hx=>?_,(fun h=>by cases h),(fun h=>by cases h),?_⟩,g,cap,rfl,hc,hb,(Array.getElem?_eq_some_iff.1 hg).1⟩
  ·obtain⟨y,hy,hr⟩:=hxy.get hx
   refine⟨y,?_,hr⟩
   rw[<-ht,List.getElem?_take]at hy
   split at hy
   ·show cur[0+i]?=some y
    rw[Nat.zero_add,<-Array.getElem?_toList];exact hy
   ·cases hy
  ·have:=hxy.1
   show 0+xs.length<=cur.size
   omega
theorem jN{w:World}{e n:Nat}(h:w.ownsRow base e 1 v n ys)(hn:n≠0):∃g cap,v=.slice (some ⟨g,0,none⟩) n cap/\n<=cap/\base<=g/\g<w.heap.size:=by
 obtain⟨hl,h2⟩:=h
 rcases h2 with⟨_,h0⟩|⟨g,cap,cur,rfl,hb,hg,hc,_,hs,ht⟩
 ·exact absurd h0 hn
 ·exact⟨g,cap,rfl,hc,hb,(Array.getElem?_eq_some_iff.1 hg).1⟩
section
variable{μ:Type}[AMem μ]{ρ:Ren}{V:Nat->Option Blk}{w w':World}{B:Nat}
theorem GS{m:μ}{n sz F:Nat}{x x':Value}{l:List Value}(hm:MRel ρ V w B)(hx:VRel ρ x x')(h:shown m n sz x=some (l,r))(hag:eI V m n F)(hF:Sub r F):
  (∃a c,x'=.slice a 0 c/\l=[])\/∃b o len c,x'=.slice (some ⟨b,o,none⟩) len c/\b<w.heap.size/\l.length=len*sz/\∀(j:Nat) v,l[j]?=some v->∃y,w.cell? ⟨b,o+j,none⟩=some y/\VRel ρ v y:=by
 unfold shown at h
 split at h
 ·injection h with h;injection h with e1 e2;subst e1;subst e2
  exact .inl ⟨_,_,hx.dN rfl,rfl⟩
 ·rename_i b o ln c
  cases h0:Nat.beq ln 0
  ·rw[h0,cond_false]at h
   have hne:ln≠0:=by intro e;subst e;simp at h0
   have hsh:∃p c',x'=.slice (some ⟨p.blk,p.base+o,none⟩) ln c'/\ρ b=some p:=by
    cases hx with
    |flat hf=>simp[flat]at hf
    |slice hp _ _ _ _=>exact⟨_,_,rfl,hp⟩
    |vag=>exact absurd rfl hne
   obtain⟨p,c',rfl,hp⟩:=hsh
   unfold oH at h
   split at h
   ·rename_i c1 s _ _ hg
    cases hs:szF s sz
    ·rw[hs,cond_false]at h;cases h
    ·rw[hs,cond_true]at h
     cases hc:eO c1 o (Nat.mul ln sz)with
     |none=>rw[hc]at h;cases h
     |some l1=>
      rw[hc]at h
      have h:some (l1,bit b)=some (l,r):=h
      injection h with h;injection h with e1 e2;subst e1;subst e2
      obtain⟨_,hb⟩:=fo hm hag (hF b (by rw[dn];simp)) hg hp
      obtain⟨_,h2,h3⟩:=iF hc
      refine .inr ⟨_,_,_,_,rfl,hm.fresh b p hp,h2,fun j v hv=>?_⟩
      have hj:j<Nat.mul ln sz:=by
       have:=(List.getElem?_eq_some_iff.1 hv).1
       omega
      rw[h3 j hj]at hv
      obtain⟨y,hy,hr⟩:=jI hb hv
      exact⟨y,by rw[<-hy,Nat.add_assoc],hr⟩
   ·cases h
  ·rw[h0,cond_true]at h
   injection h with h;injection h with e1 e2;subst e1;subst e2
   have h0:ln=0:=Nat.eq_of_beq_eq_true h0
   subst h0
   have hsh:∃a c',x'=.slice a 0 c':=by
    cases hx with
    |flat hf=>simp[flat]at hf
    |slice hp _ _ _ _=>exact⟨_,_,rfl⟩
    |vag=>exact⟨_,_,rfl⟩
   obtain⟨a,c',rfl⟩:=hsh
   exact .inl ⟨_,_,rfl,rfl⟩
 ·cases h
end
theorem I5{ρ:Ren}{cs:Array Value}{y:Value}(hf:cs.toList.all flat=true)(h:VRel ρ (.agg cs) y):y=.agg cs:=by
 cases h with
 |flat h=>rfl
 |agg h1 h2=>
  rename_i cs'
  have e:cs'=cs:=by
   apply Array.ext (by omega)
   intro i hi hj
   have hx:cs[i]?=some cs[i]:=Array.getElem?_eq_getElem hj
   have hy:cs'[i]?=some cs'[i]:=Array.getElem?_eq_getElem hi
   have hfl:flat cs[i]=true:=List.all_eq_true.1 hf _ (by rw[<-Array.mem_def];exact Array.getElem_mem hj)
   exact((h2 i _ _ hx hy).dN hfl)
  rw[e]
theorem Env.xX{P:Program}{tab:List (Nat×AFn)}{Y:Nat->List Value->FM->Nat->OR FM}(h:Env P tab Y){k f:Nat}{m:FM}{n wm:Nat}(ha:args.all du=true)(hv:∀ρ y,VRel ρ v y->y=v)
  (hrun:dX (look tab) Y (exec P (look tab) Y k) f args FM0 0=.ok v m n r wm) (w:World) (hgl:kl w.heap.size w):Calls P f args.toArray w fun e w'=>e=.returned v/\Below w.heap.size w w':=by
 obtain⟨_,hc⟩:=h.calls k f args FM0 0 v m n r wm hrun (fun _=>none) (fun _=>none) w w.heap.size (Nat.lor r wm) args.toArray ⟨rfl,fun i x y hx hy=>by
   have:x=y:=by simp at hy;rw[hx]at hy;injection hy
   subst this
   exact xh ha _ x (List.mem_of_getElem? hx)⟩ (Sub.refl _) (fun b hb=>by omega) (qZ w hgl) (fun _ _=>rfl)
 refine hc.mono fun e w' hh=>?_
 obtain⟨ρ',v',rfl,hv',hp⟩:=hh
 rw[hv _ _ hv']
 exact⟨rfl,hp.below⟩
end Go.Am.CD
namespace Go.Am.CD
open Go Go.Am Go.Am.V Go.RowKit
set_option maxRecDepth 100000
variable{v x:Value}{n n' r wm f:Nat}{args:List Value}{args':Array Value}
noncomputable def LD(x:Value):List Blk:=[.cells [x] 0 false false,.cells [.int .i64 28] 0 false false]
noncomputable def chkI(m:FM)(n:Nat):List Value->OR FM
 |[.slice (some a) len c,.int .i64 28]=>.ok (.func (.func 97) #[] #[.pointer (some ⟨n,0,none⟩),.pointer (some ⟨n+1,0,none⟩)]) (og (LD (.slice (some a) len c)) n m) (n+2) 0 (qX n 2)
 |_=>.no
noncomputable def Bk(f:Nat)(args:List Value)(m:FM)(n:Nat):OR FM:=cond (Nat.beq f 49) (chkI m n args) .no
theorem Bj{m m':FM}(h:Bk f args m n=.ok v m' n' r wm):
  f=49/\∃a len c,args=[.slice (some a) len c,.int .i64 28]/\v=.func (.func 97) #[] #[.pointer (some ⟨n,0,none⟩),.pointer (some ⟨n+1,0,none⟩)]/\m'=og (LD (.slice (some a) len c)) n m/\n'=n+2/\r=0/\wm=qX n 2:=by
 unfold Bk at h
 cases hb:Nat.beq f 49
 ·rw[hb]at h;cases h
 rw[hb,cond_true]at h
 refine⟨Nat.eq_of_beq_eq_true hb,?_⟩
 unfold chkI at h
 split at h
 ·rename_i a len c
  injection h with e1 e2 e3 e4 e5
  exact⟨a,len,c,rfl,e1.symm,e2.symm,e3.symm,e4.symm,e5.symm⟩
 ·cases h
theorem Ge:ew (μ:=FM) Bk:=fun f args m n v m' n' r wm h=>by
 obtain⟨_,a,len,c,_,_,rfl,rfl,_,rfl⟩:=Bj h
 exact p9 _ _ _
theorem GD{ρ:Ren}{y:Value}(h:dO ρ [x,y] args'.toList):∃x' y',args'=#[x',y']/\VRel ρ x x'/\VRel ρ y y':=by
 obtain⟨l⟩:=args'
 match l,h with
 |[x',y'],h=>exact⟨x',y',rfl,h.2 0 _ _ rfl rfl,h.2 1 _ _ rfl rfl⟩
 |[],h=>exact absurd h.1 (by simp)
 |[_],h=>exact absurd h.1 (by simp)
 |_::_::_::_,h=>exact absurd h.1 (by simp)
theorem D5{ρ:Ren}(h:dO ρ [x] args'.toList):∃x',args'=#[x']/\VRel ρ x x':=by
 obtain⟨l⟩:=args'
 match l,h with
 |[x'],h=>exact⟨x',rfl,h.2 0 _ _ rfl rfl⟩
 |[],h=>exact absurd h.1 (by simp)
 |_::_::_,h=>exact absurd h.1 (by simp)
theorem Gd:eQ (μ:=FM) Proofs.Tryz.prog Bk:=by
 intro f args m n v m' n' r wm h ρ V w B F args' hargs hF hag hm hfree
 obtain⟨rfl,a,len,c,rfl,rfl,rfl,rfl,rfl,rfl⟩:=Bj h
 clear h
 obtain⟨x1,x2,rfl,hr1,hr2⟩:=GD hargs
 obtain rfl:=hr2.dN rfl
 refine⟨⟨_,_,Proofs.Tryz.func49,by decide +kernel,rfl⟩,(callsIn_wide (n:=0)).1 ?_⟩
 have hx:∃a' c',x1=.slice a' len c':=by
  cases hr1 with
  |flat h=>simp[flat]at h
  |slice _ _ _ _ _=>exact⟨_,_,rfl⟩
  |vag=>exact⟨_,_,rfl⟩
 obtain⟨a',c',rfl⟩:=hx
 refine(Proofs.Ch.IF Fence.wide trivial rfl 0 a' len c' 28 (by decide) w).mono ?_
 rintro e w' ⟨rfl,rfl⟩
 have hb:Below w.heap.size w ((w.alloc (.cells #[.slice a' len c'] 99)).alloc (.cells #[.int .i64 28] 3)):=((Below.refl _ w).alloc (Nat.le_refl _) _).alloc (by simp) _
 have h0:((w.alloc (.cells #[.slice a' len c'] 99)).alloc (.cells #[.int .i64 28] 3)).heap[w.heap.size]?=some (.cells #[.slice a' len c'] 99):=(Below.heap_alloc _ _ _ (by simp)).trans (World.alloc_heap_new w _)
 have h1:((w.alloc (.cells #[.slice a' len c'] 99)).alloc (.cells #[.int .i64 28] 3)).heap[w.heap.size+1]?=some (.cells #[.int .i64 28] 3):=by
  have:=World.alloc_heap_new (w.alloc (.cells #[.slice a' len c'] 99)) (.cells #[.int .i64 28] 3)
  rwa [World.size_alloc]at this
 obtain⟨ρ',hρ,hp⟩:=nT hm hfree m (LD (.slice (some a) len c)) [⟨w.heap.size,0,1,0⟩,⟨w.heap.size+1,0,1,0⟩] rfl hb (fun p hp=>by
   simp only[List.mem_cons,List.not_mem_nil,or_false]at hp
   rcases hp with rfl|rfl<;>(refine⟨?_,?_⟩<;>simp<;>omega)) (fun O hO=>by
   simp only[LD,List.mem_cons,List.not_mem_nil,or_false]at hO
   rcases hO with rfl|rfl<;>rfl) (fun ρ' hle hρ i p O hp hO=>by
   match i,hp,hO with
   |0,hp,hO=>
    injection hp with hp;injection hO with hO
    subst hp;subst hO
    refine⟨rfl,_,_,_,h0,fun i x hx=>?_,(fun h=>by cases h),(fun h=>by cases h),by simp⟩
    match i,hx with
    |0,hx=>injection hx with hx;subst hx;exact⟨_,rfl,hr1.mono hle⟩
   |1,hp,hO=>
    injection hp with hp;injection hO with hO
    subst hp;subst hO
    refine⟨rfl,_,_,_,h1,fun i x hx=>?_,(fun h=>by cases h),(fun h=>by cases h),by simp⟩
    match i,hx with
    |0,hx=>injection hx with hx;subst hx;exact⟨_,rfl,.int _ _ _⟩)
 refine⟨ρ',_,rfl,VRel.func rfl (fun i x y hx hy=>by simp at hx) rfl (fun i x y hx hy=>?_),hp⟩
 match i,hx,hy with
 |0,hx,hy=>injection hx with hx;injection hy with hy;subst hx;subst hy;exact VRel.ptr (hρ 0 _ rfl)
 |1,hx,hy=>injection hx with hx;injection hy with hy;subst hx;subst hy;exact VRel.ptr (hρ 1 _ rfl)
noncomputable def OC(a:Addr)(len:Nat):List Blk:=[.cells [.slice (some a) len len] 1 false false]
noncomputable def colI(m:FM)(n:Nat)(b1 o1 b2 o2:Nat):Option Blk->Option Blk->OR FM
 |some (.cells c1 _ _ _),some (.cells c2 _ _ _)=>(match c1[o1]?,c2[o2]? with
  |some (.slice (some a) len _),some (.int .i64 28)=>cond (Nat.blt 0 len&&Nat.ble len 28) (.ok (.slice (some ⟨n,0,none⟩) 1 UNK) (og (OC a len) n m) (n+1) (Nat.lor (bit b1) (bit b2)) (qX n 1)) .no
  |_,_=>.no)
 |_,_=>.no
noncomputable def OB(m:FM)(n:Nat):List Value->List Value->OR FM
 |[],[.pointer (some ⟨b1,o1,none⟩),.pointer (some ⟨b2,o2,none⟩)]=>colI m n b1 o1 b2 o2 (fg m n b1) (fg m n b2)
 |_,_=>.no
noncomputable def colV(m:FM)(n:Nat):List Value->OR FM
 |[.func (.func 97) a c]=>OB m n a.toList c.toList
 |_=>.no
noncomputable def IB(f:Nat)(args:List Value)(m:FM)(n:Nat):OR FM:=cond (Nat.beq f 48) (colV m n args) .no
theorem EH{m m':FM}(h:IB f args m n=.ok v m' n' r wm):
  f=48/\∃b1 o1 b2 o2 c1 s1 p1 w1 c2 s2 p2 w2 a len c,args=[.func (.func 97) #[] #[.pointer (some ⟨b1,o1,none⟩),.pointer (some ⟨b2,o2,none⟩)]]/\fg m n b1=some (.cells c1 s1 p1 w1)/\fg m n b2=some (.cells c2 s2 p2 w2)/\
   c1[o1]?=some (.slice (some a) len c)/\c2[o2]?=some (.int .i64 28)/\0<len/\len<=28/\v=.slice (some ⟨n,0,none⟩) 1 UNK/\m'=og (OC a len) n m/\n'=n+1/\r=Nat.lor (bit b1) (bit b2)/\wm=qX n 1:=by
 unfold IB at h
 cases hb:Nat.beq f 48
 ·rw[hb]at h;cases h
 rw[hb,cond_true]at h
 refine⟨Nat.eq_of_beq_eq_true hb,?_⟩
 unfold colV at h
 split at h
 ·rename_i a c
  obtain⟨la⟩:=a
  obtain⟨lc⟩:=c
  replace h:OB m n la lc=_:=h
  unfold OB at h
  split at h
  ·rename_i b1 o1 b2 o2
   unfold colI at h
   split at h
   ·rename_i c1 s1 p1 w1 c2 s2 p2 w2 hg1 hg2
    split at h
    ·rename_i a len c h1 h2
     cases hc:(Nat.blt 0 len&&Nat.ble len 28)
     ·rw[hc]at h;cases h
     ·rw[hc,cond_true]at h
      rw[Bool.and_eq_true]at hc
      injection h with e1 e2 e3 e4 e5
      exact⟨b1,o1,b2,o2,c1,s1,p1,w1,c2,s2,p2,w2,a,len,c,rfl,hg1,hg2,h1,h2,Nat.le_of_ble_eq_true hc.1,Nat.le_of_ble_eq_true hc.2,e1.symm,e2.symm,e3.symm,e4.symm,e5.symm⟩
    ·cases h
   ·cases h
  ·cases h
 ·cases h
theorem IA:ew (μ:=FM) IB:=fun f args m n v m' n' r wm h=>by
 obtain⟨_,b1,o1,b2,o2,c1,s1,p1,w1,c2,s2,p2,w2,a,len,c,_,_,_,_,_,_,_,_,rfl,rfl,_,rfl⟩:=EH h
 exact p9 _ _ _
theorem Iz:eQ (μ:=FM) Proofs.Tryz.prog IB:=by
 intro f args m n v m' n' r wm h ρ V w B F args' hargs hF hag hm hfree
 obtain⟨rfl,b1,o1,b2,o2,c1,s1,q1,w1,c2,s2,q2,w2,a,len,c,rfl,hg1,hg2,h1,h2,hl0,hl28,rfl,rfl,rfl,rfl,rfl⟩:=EH h
 clear h
 obtain⟨x1,rfl,hr1⟩:=D5 hargs
 refine⟨⟨_,_,Proofs.Tryz.func48,by decide +kernel,rfl⟩,(callsIn_wide (n:=9)).1 ?_⟩
 have hx:∃p1 p2,x1=.func (.func 97) #[] #[.pointer (some ⟨p1.blk,p1.base+o1,none⟩),.pointer (some ⟨p2.blk,p2.base+o2,none⟩)]/\ρ b1=some p1/\ρ b2=some p2:=by
  cases hr1 with
  |flat h=>simp[flat]at h
  |func k1 k2 k3 k4=>
   rename_i a' c'
   obtain⟨la⟩:=a'
   obtain⟨lc⟩:=c'
   obtain rfl:la=[]:=by
    simp at k1
    exact List.length_eq_zero_iff.1 k1.symm
   have hl:lc.length=2:=by simp at k3;omega
   match lc,hl with
   |[y1,y2],_=>
    have j1:=k4 0 _ _ rfl rfl
    have j2:=k4 1 _ _ rfl rfl
    cases j1 with
    |flat h=>simp[flat]at h
    |ptr e1=>
     cases j2 with
     |flat h=>simp[flat]at h
     |ptr e2=>exact⟨_,_,rfl,e1,e2⟩
 obtain⟨p1,p2,rfl,e1,e2⟩:=hx
 have hb1:=(fo hm hag (hF b1 (by rw[c9,c9,dn];simp)) hg1 e1).2
 have hb2:=(fo hm hag (hF b2 (by rw[c9,c9,dn,dn];simp)) hg2 e2).2
 obtain⟨y1,hy1,hv1⟩:=jI hb1 h1
 obtain⟨y2,hy2,hv2⟩:=jI hb2 h2
 obtain rfl:=hv2.dN rfl
 have hy:∃bb oo cc p,y1=.slice (some ⟨bb,oo,none⟩) len cc/\len<=cc/\VRel ρ (.slice (some a) len len) (.slice (some ⟨bb,oo,none⟩) len len)/\p=(0:Nat):=by
  cases hv1 with
  |flat h=>simp[flat]at h
  |slice hp hn hu hk hv=>exact⟨_,_,_,0,rfl,hn,VRel.slice hp (Nat.le_refl _) (fun h=>by unfold UNK at h;omega) (fun _=>rfl) (by unfold VAG;omega),rfl⟩
  |vag=>exact absurd hl0 (by omega)
 obtain⟨bb,oo,cc,_,rfl,hcc,hvv,-⟩:=hy
 refine(Proofs.Ch.CU Fence.wide 9 (by omega) trivial trivial trivial rfl p1.blk p2.blk (p1.base+o1) (p2.base+o2) bb oo len cc 28 hl0 (by omega) (by decide) hcc w (hm.fresh _ _ e1) (hm.fresh _ _ e2) hy1 hy2).mono ?_
 rintro e w' ⟨v,rfl,hown,hb⟩
 obtain⟨g,cap,rfl,hc,hg0,hg1'⟩:=jN hown (by decide)
 obtain⟨ρ',hρ,hp⟩:=nT hm hfree m (OC a len) [⟨g,0,cap,1⟩] rfl hb (fun p hp=>by
   obtain rfl:=List.mem_singleton.1 hp
   exact⟨hg0,hg1'⟩) (fun O hO=>by
   obtain rfl:=List.mem_singleton.1 hO;rfl) (fun ρ' hle hρ i p O hp hO=>by
   match i,hp,hO with
   |0,hp,hO=>
    injection hp with hp;injection hO with hO
    subst hp;subst hO
    exact(j5 (B:=B) (xs:=[.slice (some a) len len]) hown (by decide) (dO.cons (hvv.mono hle) (.nil ρ'))).1)
 exact⟨ρ',_,rfl,VRel.slice (o:=0) (hρ 0 _ rfl) hc (fun _=>by show 0+cap*1=cap;omega) (fun h=>absurd rfl h) (by unfold UNK VAG;omega),hp⟩
def CG(ns:List Int):List Value:=ns.map (Value.int .i64)
def cpL:List (List Int):=[[0,1,2,3],[0,1,2,4],[0,1,3,4],[0,2,3,4],[1,2,3,4]]
def sl4(b:Nat):Value:=.slice (some ⟨b,0,none⟩) 4 UNK
noncomputable def cpB(n:Nat):List Blk:=[.cells (CG [0,1,2,3]) 1 false false,.cells (CG [0,1,2,4]) 1 false false,.cells (CG [0,1,3,4]) 1 false false,.cells (CG [0,2,3,4]) 1 false false,.cells (CG [1,2,3,4]) 1 false false,.cells [sl4 n,sl4 (n+1),sl4 (n+2),sl4 (n+3),sl4 (n+4)] 1 false false]
noncomputable def cpI(m:FM)(n:Nat):List Value->OR FM
 |[.int .i64 5,.int .i64 4]=>.ok (.tuple #[.agg #[.int .i64 5,.slice (some ⟨n+5,0,none⟩) 5 UNK],.int .i64 0]) (og (cpB n) n m) (n+6) 0 (qX n 6)
 |_=>.no
noncomputable def cpA(f:Nat)(args:List Value)(m:FM)(n:Nat):OR FM:=cond (Nat.beq f 91) (cpI m n args) .no
theorem Iw{m m':FM}(h:cpA f args m n=.ok v m' n' r wm):
  f=91/\args=[.int .i64 5,.int .i64 4]/\v=.tuple #[.agg #[.int .i64 5,.slice (some ⟨n+5,0,none⟩) 5 UNK],.int .i64 0]/\m'=og (cpB n) n m/\n'=n+6/\r=0/\wm=qX n 6:=by
 unfold cpA at h
 cases hb:Nat.beq f 91
 ·rw[hb]at h;cases h
 rw[hb,cond_true]at h
 refine⟨Nat.eq_of_beq_eq_true hb,?_⟩
 unfold cpI at h
 split at h
 ·injection h with e1 e2 e3 e4 e5
  exact⟨rfl,e1.symm,e2.symm,e3.symm,e4.symm,e5.symm⟩
 ·cases h
theorem Lz:ew (μ:=FM) cpA:=fun f args m n v m' n' r wm h=>by
 obtain⟨_,_,_,rfl,rfl,_,rfl⟩:=Iw h
 exact p9 _ _ _
theorem qc(ρ:Ren)(l:List Int):dO ρ (CG l) (l.map (Value.int .i64)):=⟨rfl,fun i a b ha hb=>by
 unfold CG at ha
 rw[ha]at hb;injection hb with hb;subst hb
 rw[List.getElem?_map,Option.map_eq_some_iff]at ha
 obtain⟨z,_,rfl⟩:=ha
 exact .int ρ _ _⟩
theorem NE:Proofs.St.gm (5:Nat) 4 0 []=cpL:=by decide +kernel
theorem Ly:eQ (μ:=FM) Proofs.Tryz.prog cpA:=by
 intro f args m n v m' n' r wm h ρ V w B F args' hargs hF hag hm hfree
 obtain⟨rfl,rfl,rfl,rfl,rfl,rfl,rfl⟩:=Iw h
 clear h
 obtain rfl:=xN hargs rfl
 refine⟨⟨_,_,Proofs.Tryz.func91,by decide +kernel,rfl⟩,(callsIn_wide (n:=0)).1 ?_⟩
 refine(Proofs.St.Bg Fence.wide trivial trivial trivial trivial trivial rfl rfl 0 5 4 (by omega) (by omega) (by omega) (by omega) (by decide +kernel) (by rw[NE];decide) w).mono ?_
 rintro e w' ⟨v,xs,rfl,hxs,hown,hrows,hb⟩
 rw[NE]at hxs
 have hl:xs.length=5:=by rw[<-List.length_map (f:=Prod.snd),hxs];rfl
 match xs,hl with
 |[⟨x0,y0⟩,⟨x1,y1⟩,⟨x2,y2⟩,⟨x3,y3⟩,⟨x4,y4⟩],_=>
  simp only[List.map_cons,List.map_nil,cpL,List.cons.injEq,and_true]at hxs
  obtain⟨rfl,rfl,rfl,rfl,rfl⟩:=hxs
  have r0:w'.ownsRow w.heap.size 3 1 x0 4 (([0,1,2,3]:List Int).map (Value.int .i64)):=(hrows (x0,[0,1,2,3]) (by simp)).1
  have r1:w'.ownsRow w.heap.size 3 1 x1 4 (([0,1,2,4]:List Int).map (Value.int .i64)):=(hrows (x1,[0,1,2,4]) (by simp)).1
  have r2:w'.ownsRow w.heap.size 3 1 x2 4 (([0,1,3,4]:List Int).map (Value.int .i64)):=(hrows (x2,[0,1,3,4]) (by simp)).1
  have r3:w'.ownsRow w.heap.size 3 1 x3 4 (([0,2,3,4]:List Int).map (Value.int .i64)):=(hrows (x3,[0,2,3,4]) (by simp)).1
  have r4:w'.ownsRow w.heap.size 3 1 x4 4 (([1,2,3,4]:List Int).map (Value.int .i64)):=(hrows (x4,[1,2,3,4]) (by simp)).1
  clear hrows
  replace hown:w'.ownsRow w.heap.size 151 1 v 5 [x0,x1,x2,x3,x4]:=hown
  obtain⟨g0,cap0,rfl,hc0,ha0,hz0⟩:=jN r0 (by decide)
  obtain⟨g1,cap1,rfl,hc1,ha1,hz1⟩:=jN r1 (by decide)
  obtain⟨g2,cap2,rfl,hc2,ha2,hz2⟩:=jN r2 (by decide)
  obtain⟨g3,cap3,rfl,hc3,ha3,hz3⟩:=jN r3 (by decide)
  obtain⟨g4,cap4,rfl,hc4,ha4,hz4⟩:=jN r4 (by decide)
  obtain⟨g5,cap5,rfl,hc5,ha5,hz5⟩:=jN hown (by decide)
  have hsl:∀(ρ':Ren) (i g cap:Nat),ρ' i=some ⟨g,0,cap,1⟩->4<=cap->VRel ρ' (sl4 i) (.slice (some ⟨g,0,none⟩) 4 cap):=fun ρ' i g cap hp hc=>
   VRel.slice (o:=0) hp hc (fun _=>by show 0+cap*1=cap;omega) (fun h=>absurd rfl h) (by unfold UNK VAG;omega)
  obtain⟨ρ',hρ,hp⟩:=nT hm hfree m (cpB n) [⟨g0,0,cap0,1⟩,⟨g1,0,cap1,1⟩,⟨g2,0,cap2,1⟩,⟨g3,0,cap3,1⟩,⟨g4,0,cap4,1⟩,⟨g5,0,cap5,1⟩] rfl hb (fun p hp=>by
    simp only[List.mem_cons,List.not_mem_nil,or_false]at hp
    rcases hp with rfl|rfl|rfl|rfl|rfl|rfl
    ·exact⟨ha0,hz0⟩
    ·exact⟨ha1,hz1⟩
    ·exact⟨ha2,hz2⟩
    ·exact⟨ha3,hz3⟩
    ·exact⟨ha4,hz4⟩
    ·exact⟨ha5,hz5⟩) (fun O hO=>by
    simp only[cpB,List.mem_cons,List.not_mem_nil,or_false]at hO
    rcases hO with rfl|rfl|rfl|rfl|rfl|rfl<;>rfl) (fun ρ' hle hρ i p O hp hO=>by
    match i,hp,hO with
    |0,hp,hO=>injection hp with hp;injection hO with hO;subst hp;subst hO;exact(j5 (B:=B) r0 (by decide) (qc ρ' _)).1
    |1,hp,hO=>injection hp with hp;injection hO with hO;subst hp;subst hO;exact(j5 (B:=B) r1 (by decide) (qc ρ' _)).1
    |2,hp,hO=>injection hp with hp;injection hO with hO;subst hp;subst hO;exact(j5 (B:=B) r2 (by decide) (qc ρ' _)).1
    |3,hp,hO=>injection hp with hp;injection hO with hO;subst hp;subst hO;exact(j5 (B:=B) r3 (by decide) (qc ρ' _)).1
    |4,hp,hO=>injection hp with hp;injection hO with hO;subst hp;subst hO;exact(j5 (B:=B) r4 (by decide) (qc ρ' _)).1
    |5,hp,hO=>
     injection hp with hp;injection hO with hO;subst hp;subst hO
     exact(j5 (B:=B) hown (by decide) (dO.cons (hsl ρ' n g0 cap0 (hρ 0 _ rfl) hc0) (dO.cons (hsl ρ' _ g1 cap1 (hρ 1 _ rfl) hc1) (dO.cons (hsl ρ' _ g2 cap2 (hρ 2 _ rfl) hc2) (dO.cons (hsl ρ' _ g3 cap3 (hρ 3 _ rfl) hc3) (dO.cons (hsl ρ' _ g4 cap4 (hρ 4 _ rfl) hc4) (.nil ρ'))))))).1)
  refine⟨ρ',_,rfl,(dO.cons (dO.cons (.int ρ' _ _) (dO.cons ?_ (.nil ρ'))).agg (dO.cons (.int ρ' _ _) (.nil ρ'))).tuple,hp⟩
  exact VRel.slice (o:=0) (hρ 5 _ rfl) hc5 (fun _=>by show 0+cap5*1=cap5;omega) (fun h=>absurd rfl h) (by unfold UNK VAG;omega)
end Go.Am.CD
namespace Go.Am.CD
open Go Go.Am Go.Am.V Go.RowKit
set_option maxRecDepth 1000000
variable{v:Value}{n n' r wm f:Nat}{args:List Value}
noncomputable def Y0:Nat->List Value->FM->Nat->OR FM:=fun _ _ _ _=>.no
theorem K2:Proofs.Tryz.prog.follows .mixedOrders=true:=by kernel_rfl
theorem yL:Env Proofs.Tryz.prog tab Y0 where
 mix:=K2
 yI:=yI
 loc:=fun f args m n v m' n' r wm h=>by cases h
 sim:=fun f args m n v m' n' r wm h=>by cases h
def exZ(j:Nat):Int:=match j with|0=>1|1=>2|_=>4
def zZ(x k:Nat):Int:=if k=0 then(x:Int)+1 else 0
def RZ(j p k:Nat):Int:=if k=0 then(match p with|0=>0|1=>2|_=>match j with|0=>3|1=>5|_=>9)else 0
def AP(x:OR FM)(z:Int):Bool:=match x with
 | .ok (.int .u8 y) _ _ _ _=>decide (y=z)
 |_=>false
theorem uE{x:OR FM}{z:Int}(h:AP x z=true):∃m n r w,x=.ok (.int .u8 z) m n r w:=by
 unfold AP at h
 split at h
 ·obtain rfl:=of_decide_eq_true h
  exact⟨_,_,_,_,rfl⟩
 ·cases h
def se(x:OR FM)(z:List Value):Bool:=match x with
 | .ok (.agg y) _ _ _ _=>mH y.toList z
 |_=>false
theorem lG{x:OR FM}{z:Array Value}(h:se x z.toList=true):∃m n r w,x=.ok (.agg z) m n r w:=by
 unfold se at h
 split at h
 ·rename_i y _ _ _ _
  have:=py h
  rw[show y=z from Array.ext' this]
  exact⟨_,_,_,_,rfl⟩
 ·cases h
theorem e0:AP (dX (look tab) Y0 (exec PG (look tab) Y0 300) 84 [.int .i64 0] FM0 0) (exZ 0)=true:=by kernel_rfl
theorem e1:AP (dX (look tab) Y0 (exec PG (look tab) Y0 300) 84 [.int .i64 1] FM0 0) (exZ 1)=true:=by kernel_rfl
theorem e2:AP (dX (look tab) Y0 (exec PG (look tab) Y0 300) 84 [.int .i64 2] FM0 0) (exZ 2)=true:=by kernel_rfl
def blC(f:Nat->Int):Array Value:=#[.int .u8 (f 0),.int .u8 (f 1),.int .u8 (f 2),.int .u8 (f 3),.int .u8 (f 4),.int .u8 (f 5),.int .u8 (f 6),.int .u8 (f 7)]
theorem b00:se (dX (look tab) Y0 (exec PG (look tab) Y0 300) 83 [.agg (blC (zZ 1)),.agg (blC (RZ 0 0)),.int .u8 (exZ 0)] FM0 0) (blC (RZ 0 1)).toList=true:=by kernel_rfl
theorem b01:se (dX (look tab) Y0 (exec PG (look tab) Y0 300) 83 [.agg (blC (zZ 0)),.agg (blC (RZ 0 1)),.int .u8 (exZ 0)] FM0 0) (blC (RZ 0 2)).toList=true:=by kernel_rfl
theorem b10:se (dX (look tab) Y0 (exec PG (look tab) Y0 300) 83 [.agg (blC (zZ 1)),.agg (blC (RZ 1 0)),.int .u8 (exZ 1)] FM0 0) (blC (RZ 1 1)).toList=true:=by kernel_rfl
theorem b11:se (dX (look tab) Y0 (exec PG (look tab) Y0 300) 83 [.agg (blC (zZ 0)),.agg (blC (RZ 1 1)),.int .u8 (exZ 1)] FM0 0) (blC (RZ 1 2)).toList=true:=by kernel_rfl
theorem b20:se (dX (look tab) Y0 (exec PG (look tab) Y0 300) 83 [.agg (blC (zZ 1)),.agg (blC (RZ 2 0)),.int .u8 (exZ 2)] FM0 0) (blC (RZ 2 1)).toList=true:=by kernel_rfl
theorem b21:se (dX (look tab) Y0 (exec PG (look tab) Y0 300) 83 [.agg (blC (zZ 0)),.agg (blC (RZ 2 1)),.int .u8 (exZ 2)] FM0 0) (blC (RZ 2 2)).toList=true:=by kernel_rfl
theorem c84(w:World)(hgl:kl w.heap.size w)(j:Nat)(hj:j<3):Calls Proofs.Tryz.prog 84 #[.int .i64 (j:Int)] w fun e w'=>e=.returned (.int .u8 (exZ j))/\Below w.heap.size w w':=by
 have hv:∀(x:Int) (ρ:Ren) (y:Value),VRel ρ (.int .u8 x) y->y=.int .u8 x:=fun x ρ y h=>h.dN rfl
 match j,hj with
 |0,_=>obtain⟨m,n,r,wm,h⟩:=uE e0;exact Env.xX yL rfl (hv _) h w hgl
 |1,_=>obtain⟨m,n,r,wm,h⟩:=uE e1;exact Env.xX yL rfl (hv _) h w hgl
 |2,_=>obtain⟨m,n,r,wm,h⟩:=uE e2;exact Env.xX yL rfl (hv _) h w hgl
theorem bl_eq(f:Nat->Int):Proofs.Bb.bl f=.agg (blC f):=rfl
theorem IX(f:Nat->Int):(blC f).toList.all flat=true:=rfl
theorem c83(w:World)(hgl:kl w.heap.size w)(j p:Nat)(hj:j<3)(hp:p<2):Calls Proofs.Tryz.prog 83 #[Proofs.Bb.bl (zZ (2-1-p)),Proofs.Bb.bl (RZ j p),.int .u8 (exZ j)] w fun e w'=>e=.returned (Proofs.Bb.bl (RZ j (p+1)))/\Below w.heap.size w w':=by
 have hv:∀(f:Nat->Int) (ρ:Ren) (y:Value),VRel ρ (.agg (blC f)) y->y=.agg (blC f):=fun f ρ y h=>I5 (IX f) h
 simp only[bl_eq]
 match j,hj,p,hp with
 |0,_,0,_=>obtain⟨m,n,r,wm,h⟩:=lG b00;exact Env.xX yL rfl (hv _) h w hgl
 |0,_,1,_=>obtain⟨m,n,r,wm,h⟩:=lG b01;exact Env.xX yL rfl (hv _) h w hgl
 |1,_,0,_=>obtain⟨m,n,r,wm,h⟩:=lG b10;exact Env.xX yL rfl (hv _) h w hgl
 |1,_,1,_=>obtain⟨m,n,r,wm,h⟩:=lG b11;exact Env.xX yL rfl (hv _) h w hgl
 |2,_,0,_=>obtain⟨m,n,r,wm,h⟩:=lG b20;exact Env.xX yL rfl (hv _) h w hgl
 |2,_,1,_=>obtain⟨m,n,r,wm,h⟩:=lG b21;exact Env.xX yL rfl (hv _) h w hgl
def u8L(ns:List Int):List Value:=ns.map (Value.int .u8)
def inZ:List Value:=u8L [1,0,0,0,0,0,0,0,2,0,0,0,0,0,0,0]
def Hq:List Value:=u8L [3,0,0,0,0,0,0,0,5,0,0,0,0,0,0,0,9,0,0,0,0,0,0,0]
noncomputable def encR(m:FM)(n:Nat):Option (List Value×Nat)->OR FM
 |some (c,r)=>cond (mH c inZ) (.ok (.tuple #[.slice (some ⟨n,0,none⟩) 3 UNK,.int .i64 0]) (og [.cells Hq 8 false false] n m) (n+1) r (qX n 1)) .no
 |none=>.no
noncomputable def encI(m:FM)(n:Nat):List Value->OR FM
 |[s]=>encR m n (shown m n 8 s)
 |_=>.no
noncomputable def Ik(f:Nat)(args:List Value)(m:FM)(n:Nat):OR FM:=cond (Nat.beq f 43) (encI m n args) .no
theorem Ex{m m':FM}(h:Ik f args m n=.ok v m' n' r wm):
  f=43/\∃s,args=[s]/\shown m n 8 s=some (inZ,r)/\v=.tuple #[.slice (some ⟨n,0,none⟩) 3 UNK,.int .i64 0]/\m'=og [.cells Hq 8 false false] n m/\n'=n+1/\wm=qX n 1:=by
 unfold Ik at h
 cases hb:Nat.beq f 43
 ·rw[hb]at h;cases h
 rw[hb,cond_true]at h
 refine⟨Nat.eq_of_beq_eq_true hb,?_⟩
 unfold encI at h
 split at h
 ·rename_i s
  unfold encR at h
  split at h
  ·rename_i c r' hs
   cases hc:mH c inZ
   ·rw[hc]at h;cases h
   ·rw[hc,cond_true]at h
    injection h with e1 e2 e3 e4 e5
    exact⟨s,rfl,by rw[hs,py hc,e4],e1.symm,e2.symm,e3.symm,e5.symm⟩
  ·cases h
 ·cases h
theorem Ij:ew (μ:=FM) Ik:=fun f args m n v m' n' r wm h=>by
 obtain⟨_,s,_,_,_,rfl,rfl,rfl⟩:=Ex h
 exact p9 _ _ _
theorem KT:∀i,i<24->Hq[i]?=some (.int .u8 (Proofs.Bb.M RZ 3 0 (i / 8) (i % 8))):=by
 intro i hi
 match i,hi with
 |0,_=>rfl
 |1,_=>rfl
 |2,_=>rfl
 |3,_=>rfl
 |4,_=>rfl
 |5,_=>rfl
 |6,_=>rfl
 |7,_=>rfl
 |8,_=>rfl
 |9,_=>rfl
 |10,_=>rfl
 |11,_=>rfl
 |12,_=>rfl
 |13,_=>rfl
 |14,_=>rfl
 |15,_=>rfl
 |16,_=>rfl
 |17,_=>rfl
 |18,_=>rfl
 |19,_=>rfl
 |20,_=>rfl
 |21,_=>rfl
 |22,_=>rfl
 |23,_=>rfl
 |n+24,h=>exact absurd h (by omega)
theorem Oj(j k:Nat)(hj:j<2)(hk:k<8):inZ[j*8+k]?=some (.int .u8 (zZ j k)):=by
 match j,hj,k,hk with
 |0,_,0,_=>rfl
 |0,_,1,_=>rfl
 |0,_,2,_=>rfl
 |0,_,3,_=>rfl
 |0,_,4,_=>rfl
 |0,_,5,_=>rfl
 |0,_,6,_=>rfl
 |0,_,7,_=>rfl
 |1,_,0,_=>rfl
 |1,_,1,_=>rfl
 |1,_,2,_=>rfl
 |1,_,3,_=>rfl
 |1,_,4,_=>rfl
 |1,_,5,_=>rfl
 |1,_,6,_=>rfl
 |1,_,7,_=>rfl
theorem Ii:eQ (μ:=FM) Proofs.Tryz.prog Ik:=by
 intro f args m n v m' n' r wm h ρ V w B F args' hargs hF hag hm hfree
 obtain⟨rfl,s,rfl,hs,rfl,rfl,rfl,rfl⟩:=Ex h
 clear h
 obtain⟨x1,rfl,hr1⟩:=D5 hargs
 refine⟨⟨_,_,Proofs.Tryz.func43,by decide +kernel,rfl⟩,(callsIn_wide (n:=9)).1 ?_⟩
 rcases GS hm hr1 hs hag (Sub.trans (Sub.left _ _) hF)with⟨a,c',_,hnil⟩|⟨b,o,len,c',rfl,hb,hlen,hc⟩
 ·cases hnil
 obtain rfl:len=2:=by
  have:inZ.length=16:=rfl
  omega
 have hcells:Proofs.Bb.Cells b o 2 zZ w:=fun j hj k hk=>by
  obtain⟨y,hy,hr⟩:=hc (j*8+k) _ (Oj j k hj hk)
  rw[Nat.add_assoc,hy,hr.dN rfl]
 have hgl:∀W,Below w.heap.size w W->kl W.heap.size W:=fun W hW=>(hm.gl.mono (hW.mono hm.le)).up (Nat.le_trans hm.le hW.size)
 refine(Proofs.Bb.Ou Fence.wide rfl 9 (by omega) trivial trivial trivial rfl b o c' zZ RZ exZ (fun i k=>by unfold RZ;simp) w hb hcells trivial trivial
  (fun m W j hj hW=>callsIn_wide.2 (c84 W (hgl W hW) j hj)) (fun m W j p hj hp hW=>callsIn_wide.2 (c83 W (hgl W hW) j p hj hp))).mono ?_
 rintro e w' ⟨rfl,hE⟩
 obtain⟨⟨cur,hcur,hsz⟩,hcl,_,hbl,hsize⟩:=hE
 obtain⟨ρ',hρ,hp⟩:=nT hm hfree m [.cells Hq 8 false false] [⟨w.heap.size,0,24,8⟩] rfl hbl (fun p hp=>by
   obtain rfl:=List.mem_singleton.1 hp
   exact⟨Nat.le_refl _,show w.heap.size<_ by omega⟩) (fun O hO=>by
   obtain rfl:=List.mem_singleton.1 hO;rfl) (fun ρ' hle hρ i p O hp hO=>by
   match i,hp,hO with
   |0,hp,hO=>
    injection hp with hp;injection hO with hO
    subst hp;subst hO
    refine⟨rfl,cur,_,_,hcur,fun i x hx=>?_,(fun h=>by cases h),(fun h=>by cases h),by show 0+Hq.length<=_;rw[hsz];decide⟩
    have hi:i<24:=(List.getElem?_eq_some_iff.1 hx).1
    rw[KT i hi]at hx
    injection hx with hx
    subst hx
    refine⟨.int .u8 (Proofs.Bb.M RZ 3 0 (i / 8) (i % 8)),?_,.int _ _ _⟩
    have:=hcl (i / 8) (by omega) (i % 8) (by omega)
    simp only[World.cell?,hcur]at this
    rw[show 0+i / 8*8+i % 8=0+i by omega]at this
    exact this)
 refine⟨ρ',_,rfl,(dO.cons (VRel.slice (o:=0) (hρ 0 _ rfl) (Nat.le_refl _) (fun _=>rfl) (fun h=>absurd rfl h) (by unfold UNK VAG;omega)) (dO.cons (.int ρ' _ _) (.nil ρ'))).tuple,hp⟩
noncomputable def yS:Nat->List Value->FM->Nat->OR FM:=yX Ik (yX cpA (yX IB Bk))
theorem envS:Env Proofs.Tryz.prog tab yS where
 mix:=K2
 yI:=yI
 loc:=tf Ij (tf Lz (tf IA Ge))
 sim:=td Ii (td Ly (td Iz Gd))
theorem run4:CH (dX (look tab) yS (exec PG (look tab) yS 4000) 4 [] FM0 0)=true:=by kernel_rfl
theorem BE(w:World)(hgl:kl w.heap.size w):Calls Proofs.Tryz.prog 4 #[] w fun e w'=>e=.returned (.bool true)/\Below w.heap.size w w':=envS.lawA (xh (args:=[]) rfl) run4 w hgl
noncomputable def awA(f:Nat)(args:List Value)(m:FM)(n:Nat):OR FM:=cond (Nat.beq f 4) (match args with|[]=>.ok (.bool true) m n 0 0|_=>.no) .no
theorem C7{m m':FM}(h:awA f args m n=.ok v m' n' r wm):f=4/\args=[]/\v=.bool true/\m'=m/\n'=n/\r=0/\wm=0:=by
 unfold awA at h
 cases hb:Nat.beq f 4
 ·rw[hb]at h;cases h
 rw[hb,cond_true]at h
 refine⟨Nat.eq_of_beq_eq_true hb,?_⟩
 split at h
 ·injection h with e1 e2 e3 e4 e5
  exact⟨rfl,e1.symm,e2.symm,e3.symm,e4.symm,e5.symm⟩
 ·cases h
theorem tc:ew (μ:=FM) awA:=fun f args m n v m' n' r wm h=>by
 obtain⟨_,_,_,rfl,rfl,_,rfl⟩:=C7 h
 exact Loc.refl _ _
theorem yT:eQ (μ:=FM) Proofs.Tryz.prog awA:=by
 intro f args m n v m' n' r wm h ρ V w B F args' hargs hF hag hm hfree
 obtain⟨rfl,rfl,rfl,rfl,rfl,rfl,rfl⟩:=C7 h
 obtain rfl:=xN hargs rfl
 refine⟨⟨_,_,Proofs.Tryz.func4,by decide +kernel,rfl⟩,(BE w (hm.gl.up hm.le)).mono ?_⟩
 rintro e w' ⟨rfl,hb⟩
 exact⟨ρ,_,rfl,.flat rfl,Post.Hy hm hb⟩
end Go.Am.CD
namespace Go.Am
open Go
section
variable{μ:Type}[AMem μ]{P:Program}{rec:Nat->List Value->μ->Nat->OR μ}
inductive OD(μ:Type) where
 |no
 |ok (k:Nat) (done:List (Nat×Nat×Nat)) (e:List Value) (m:μ) (n r w:Nat)
noncomputable def iw(b:Nat)(keepV:Bool)(k:Nat)(done:List (Nat×Nat×Nat))(e:List Value)(r w:Nat):OR μ->OD μ
 | .no=>.no
 | .ok v m n r' w'=>cond (apart b r' w' done) (.ok (k+1) ((k,r',w')::done) (cond keepV (v::e) e) m n (Nat.lor r r') (Nat.lor w w')) .no
noncomputable def tG(P:Program)(rec:Nat->List Value->μ->Nat->OR μ):OD μ->AI×Nat->OD μ
 | .no,_=>.no
 | .ok k done e m n r w,(.nop _,_)=>.ok (k+1) done e m n r w
 | .ok k done e m n r w,(.op o,b)=>iw b true k done e r w (eH P rec e m n o)
 | .ok k done e m n r w,(.eff o,b)=>iw b false k done e r w (eH P rec e m n o)
 | .ok k done e m n r w,(.opg o gi gw,b)=>cond (dQ gw (ey e gi)) (iw b true k done e r w (eH P rec e m n o)) (.ok (k+1) done (undef::e) m n r w)
 | .ok k done e m n r w,(.effg o gi gw,b)=>cond (dQ gw (ey e gi)) (iw b false k done e r w (eH P rec e m n o)) (.ok (k+1) done e m n r w)
noncomputable def ll(P:Program)(rec:Nat->List Value->μ->Nat->OR μ)(l:List (AI×Nat))(s:OD μ):OD μ:=l.foldl (tG P rec) s
def mT:OD μ->CR μ
 | .no=>.no
 | .ok _ _ e m n r w=>.ok .norm e m n r w
def sP:List AI->List Nat->List (AI×Nat)
 |[],_=>[]
 |i::l,bs=>(i,bs.headD 0)::sP l bs.tail
theorem DC(l:List (AI×Nat)):ll P rec l .no=.no:=by
 induction l with
 |nil=>rfl
 |cons i l ih=>exact ih
theorem My(bs:List Nat):sP [] bs=[]:=rfl
theorem Gt(i:AI)(l:List AI)(b:Nat)(bs:List Nat):sP (i::l) (b::bs)=(i,b)::sP l bs:=rfl
variable(k:Nat)(done:List (Nat×Nat×Nat))(e:List Value)(m:μ)(n r w b:Nat)
theorem MC(i:Nat):tG P rec (.ok k done e m n r w) (.nop i,b)=.ok (k+1) done e m n r w:=rfl
theorem y_op(o:AOp):tG P rec (.ok k done e m n r w) (.op o,b)=iw b true k done e r w (eH P rec e m n o):=rfl
theorem MD(o:AOp):tG P rec (.ok k done e m n r w) (.eff o,b)=iw b false k done e r w (eH P rec e m n o):=rfl
theorem Mz(o:AOp)(gi:Nat)(gw:Bool):tG P rec (.ok k done e m n r w) (.opg o gi gw,b)=cond (dQ gw (ey e gi)) (iw b true k done e r w (eH P rec e m n o)) (.ok (k+1) done (undef::e) m n r w):=rfl
theorem Gu(o:AOp)(gi:Nat)(gw:Bool):tG P rec (.ok k done e m n r w) (.effg o gi gw,b)=cond (dQ gw (ey e gi)) (iw b false k done e r w (eH P rec e m n o)) (.ok (k+1) done e m n r w):=rfl
theorem DV:mT (.ok k done e m n r w)=.ok .norm e m n r w:=rfl
theorem xO(r w:Nat):apart b r w []=true:=rfl
theorem vv(r w i r' w':Nat)(l:List (Nat×Nat×Nat)):apart b r w ((i,r',w')::l)=((Nat.testBit b i || (Nat.beq (Nat.land w (Nat.lor r' w')) 0&&Nat.beq (Nat.land w' r) 0))&&apart b r w l):=rfl
theorem lM(a:Nat):Nat.land 0 a=0:=Nat.zero_and a
theorem lX(a:Nat):Nat.land a 0=0:=Nat.and_zero a
end
section
variable{P:Program}{E:Nat->Option AFn}{Y:Nat->List Value->FM->Nat->OR FM}{e:List Value}{m:FM}{n:Nat}
end
theorem Ea(m:FM)(n:Nat)(B:Blk)(v:Nat->Value):kZ m n B v=.ok (v n) (AMem.put m n (some B)) (n+1) 0 (bit n):=rfl
theorem DQ(n:Nat):iU n=.pointer (some ⟨n,0,none⟩):=rfl
theorem Dt(o l c n:Nat):yb o l c n=.slice (some ⟨n,o,none⟩) l c:=rfl
theorem xE(l:List Value):(Value.agg l.toArray).cells.toList=l:=rfl
theorem AR(m:FM)(b:Nat)(x y:Option Blk):AMem.put (AMem.put m b x) b y=AMem.put m b y:=by
 funext j
 show(if j=b then y else if j=b then x else m j)=if j=b then y else m j
 by_cases h:j=b<;>simp[h]
theorem de(m:FM)(b:Nat)(x:Option Blk):(AMem.put m b x:FM) b=x:=by show(if b=b then x else m b)=x;simp
theorem dc(m:FM)(b j:Nat)(x:Option Blk)(h:j≠b):(AMem.put m b x:FM) j=m j:=by show(if j=b then x else m j)=m j;simp[h]
theorem Sl.frame{m m':FM}{n n':Nat}{v:Value}{vs:List Value}(h:Sl m n v vs)(hn:n<=n')(hf:∀b,b<n->m' b=m b):Sl m' n' v vs:=by
 rcases h with h|⟨b,o,cap,c,opn,wr,h1,h2,h3,h4⟩|⟨h1,h2,h3⟩
 ·exact .inl h
 ·exact .inr <| .inl ⟨b,o,cap,c,opn,wr,h1,Nat.lt_of_lt_of_le h2 hn,by rw[hf b h2];exact h3,h4⟩
 ·exact .inr <| .inr ⟨h1,h2,by omega⟩
theorem pt.frame{m m':FM}{n n':Nat}{v:Value}{xs:List Int}(h:pt m n v xs)(hn:n<=n')(hf:∀b,b<n->m' b=m b):pt m' n' v xs:=Sl.frame h hn hf
def Rows(m:FM)(n:Nat)(v:Value)(gs:List (List Int)):Prop:=
 ∃vs,Sl m n v vs/\vs.length=gs.length/\∀(i:Nat) x g,vs[i]?=some x->gs[i]?=some g->pt m n x g
theorem Rows.frame{m m':FM}{n n':Nat}{v:Value}{gs:List (List Int)}(h:Rows m n v gs)(hn:n<=n')(hf:∀b,b<n->m' b=m b):Rows m' n' v gs:=by
 obtain⟨vs,h1,h2,h3⟩:=h
 exact⟨vs,h1.frame hn hf,h2,fun i x g hx hg=>(h3 i x g hx hg).frame hn hf⟩
theorem Rows.len{m:FM}{n:Nat}{v:Value}{gs:List (List Int)}(h:Rows m n v gs):jS false v=some (.int .i64 (gs.length:Int)):=by
 obtain⟨vs,h1,h2,_⟩:=h
 rw[h1.len,h2]
theorem Rows.at{m:FM}{n:Nat}{v:Value}{gs:List (List Int)}(h:Rows m n v gs){i:Nat}(hi:i<gs.length):∃a b x,fU 1 i v=some (.pointer (some a))/\rh m n (.pointer (some a))=.ok x m n (bit b) 0/\b<n/\pt m n x gs[i]:=by
 obtain⟨vs,h1,h2,h3⟩:=h
 have hv:vs[i]?=some vs[i]:=List.getElem?_eq_getElem (by omega)
 obtain⟨a,b,k1,k2,k3⟩:=h1.at hv
 exact⟨a,b,_,k1,k2,k3,h3 i _ _ hv (List.getElem?_eq_getElem hi)⟩
theorem Cr{n k:Nat}(h:n<=k):Nat.mod (bit k) (bit n)=0:=by
 rw[mo,mo]
 exact Nat.mod_eq_zero_of_dvd (Nat.pow_dvd_pow 2 h)
section
variable{P:Program}{E:Nat->Option AFn}{Y:Nat->List Value->FM->Nat->OR FM}{e:List Value}{m:FM}{n:Nat}
end
theorem xI(n:Nat)(e:List Value)(o:AOp):j8 n e o=(dd o).all fun x=>et n (ev e x):=rfl
theorem vh(n:Nat)(k:IntKind)(z:Int):et n (.int k z)=true:=rfl
theorem sH(n:Nat)(b:Bool):et n (.bool b)=true:=rfl
theorem vg(n b o:Nat):et n (.pointer (some ⟨b,o,none⟩))=Nat.blt b n:=rfl
theorem sF(n:Nat):et n (.slice none 0 0)=true:=rfl
theorem dC{a b:Nat}(h:a<b):Nat.blt a b=true:=Nat.ble_eq_true_of_le h
theorem Sl.below{m:FM}{n:Nat}{v:Value}{vs:List Value}(h:Sl m n v vs):et n v=true:=by
 rcases h with⟨rfl,_⟩|⟨b,o,cap,c,opn,wr,rfl,hb,_⟩|⟨rfl,_,hb⟩
 ·rfl
 ·exact dC hb
 ·exact dC hb
theorem H4{k sz i b o:Nat}(h:i<k):FU k sz i (.pointer (some ⟨b,o,none⟩))=some (.pointer (some ⟨b,o+i*sz,none⟩)):=by
 show cond (Nat.blt i k) _ none=_
 rw[dC h];rfl
theorem xD(k:IntKind)(z:Int):(Value.int k z).cells.toList=[.int k z]:=rfl
theorem qp(n:Nat):et n undef=true:=rfl
theorem sI(n:Nat)(a:Addr):et n (.pointer (some a))=Nat.blt a.block n:=rfl
end Go.Am
