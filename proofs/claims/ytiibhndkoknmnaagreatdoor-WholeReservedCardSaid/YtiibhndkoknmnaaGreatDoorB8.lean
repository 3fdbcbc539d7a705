/- The machine and its runs, part 8. -/
import Derived.Test.YtiibhndkoknmnaaGreatDoorB7
set_option linter.unusedVariables false
set_option linter.unusedSimpArgs false
open Go renaming Program→SZ,Value→AT
open Nat renaming lor→OF,beq→SF,le_refl→IN,mod→SL,blt→Te,ble_eq_true_of_le→UM,land→Un
open Go.Proofs.Tryz renaming prog→SR
open Go.Am.AMem renaming put→If
noncomputable section
set_option linter.unusedSectionVars false
namespace Go.Am
open Go
def FM:=Nat->Option Blk
instance:AMem FM where
 get m b:=m b
 put m b x:=λj=>if j=b then x else m j
 lim _ _:=true
 get_put m i j x _:=rfl
 get_lim _ _ _ _:=rfl
 lim_put _ _ _ _:=rfl
section
variable{μ:Type}[AMem μ]{P:SZ}{E:Nat->Option AFn}{Y:Nat->List AT->μ->Nat->OR μ}{k:Nat}{e:List AT}{m:μ}{n r w:Nat}
theorem Nk(vs:List AT)(r:Nat):tA e m n (some (vs,r))=.ok (.ret (yM vs)) e m n r 0:=rfl
variable{rec:Nat->List AT->μ->Nat->OR μ}
theorem o_nil:lj P rec [] e m n r w=.ok .norm e m n r w:=by show wE e m n r w=_;rw[wE,gX,gX]
theorem s_mov(x:Opd):gV P rec e m n (.mov x)=.ok (ev e x) m n 0 0:=rfl
theorem adw(c a b:Opd):gV P rec e m n (.pick c a b)=iK m n (DR (ev e a) (ev e b) (ev e c)):=rfl
theorem s_bin(op:BinOp)(t:Nat)(x y:Opd):gV P rec e m n (.bin op t x y)=iK m n (nk P op t (ev e x) (ev e y)):=rfl
theorem s_una(op:UnOp)(x:Opd):gV P rec e m n (.una op x)=iK m n (FN op (ev e x)):=rfl
theorem adA(q:IntKind)(x:Opd):gV P rec e m n (.conv q x)=iK m n (pP q (ev e x)):=rfl
theorem s_fld(off:Nat)(x:Opd):gV P rec e m n (.fld off x)=iK m n (KF off (ev e x)):=rfl
theorem s_idx(sz:Nat)(x i:Opd):gV P rec e m n (.idx sz x i)=iK m n (za (λi=>vJ sz i (ev e x)) (iB (ev e i))):=rfl
theorem s_ida(c sz:Nat)(x i:Opd):gV P rec e m n (.ida c sz x i)=iK m n (za (λi=>Kv c sz i (ev e x)) (iB (ev e i))):=rfl
theorem RX(z:List AT)(ps:List (Nat×Nat×Opd)):gV P rec e m n (.build z ps)=iK m n (uW (ou (pj e ps) z)):=rfl
theorem adz(i:Nat)(x:Opd):gV P rec e m n (.extr i x)=iK m n (Bh i (ev e x)):=rfl
theorem RW(x:Opd):gV P rec e m n (.nilck x)=iK m n (vD (ev e x)):=rfl
theorem s_len(s:Bool)(x:Opd):gV P rec e m n (.len s x)=iK m n (qR s (ev e x)):=rfl
theorem s_mx(x y:Opd):gV P rec e m n (.mx x y)=iK m n (mxV (ev e x) (ev e y)):=rfl
theorem MC(sz:Nat)(x:Opd)(lo hi:Option Opd):gV P rec e m n (.slc sz x lo hi)=wV m n sz (wU sz (oev e lo) (oev e hi) (ev e x)) (ev e x):=rfl
theorem s_new(c:List AT):gV P rec e m n (.new c)=nD m n (.cells c 0 false true) B7:=rfl
theorem s_box(x:Opd):gV P rec e m n (.box x)=nD m n (.cells (ev e x).cells.toList 0 false true) B7:=rfl
theorem s_mkl(sz len:Nat)(z:List AT)(ps:List (Nat×Opd)):gV P rec e m n (.mkl sz len z ps)=D4 m n sz len (ou (mO sz e ps) (pY z len)):=rfl
theorem adx(sz bytes:Nat)(z:List AT)(l c:Opd):gV P rec e m n (.make sz bytes z l c)=wy sz bytes z m n (iB (ev e l)) (iB (ev e c)):=rfl
theorem s_ld1(x:Opd):gV P rec e m n (.ld1 x)=Ak m n (ev e x):=rfl
theorem s_ldn(c:Nat)(x:Opd):gV P rec e m n (.ldn c x)=Aj c m n (ev e x):=rfl
theorem s_st(c:Nat)(x y:Opd):gV P rec e m n (.st c x y)=stV c (ev e y).cells.toList m n (ev e x):=rfl
theorem s_app(sz bytes:Nat)(x y:Opd):gV P rec e m n (.app sz bytes x y)=nl sz bytes m n (ev e x) (ev e y) (shown m n sz (ev e x)) (shown m n sz (ev e y)):=rfl
theorem adB(f:Nat)(args:List Opd):gV P rec e m n (.call f args)=rec f (evs e args) m n:=rfl
theorem ev_v(i:Nat):ev e (.v i)=iA e i:=rfl
theorem ev_c(x:AT):ev e (.c x)=x:=rfl
theorem adW(a:AT)(l:List AT):iA (a::l) 0=a:=rfl
theorem adX(a:AT)(l:List AT)(i:Nat):iA (a::l) (i+1)=iA l i:=rfl
theorem aa0:evs e []=[]:=rfl
theorem N8(x:Opd)(l:List Opd):evs e (x::l)=ev e x::evs e l:=rfl
theorem NA(t:List AT):GH e [] t=t:=rfl
theorem Kl(i:Nat)(s:List Nat)(t:List AT):GH e (i::s) t=iA e i::GH e s t:=rfl
theorem kT(l:List AT):nI l 0=l:=by cases l<;>rfl
theorem aaF(a:AT)(l:List AT)(i:Nat):nI (a::l) (i+1)=nI l i:=rfl
theorem aaW(sel:List Nat)(d:Nat):Ek sel d e=GH e sel (nI e d):=rfl
theorem Jx(v:AT):iK m n (some v)=.ok v m n 0 0:=rfl
theorem abC(op:BinOp)(t:Nat)(q:IntKind)(a b:Int):nk P op t (.int q a) (.int q b)=j3 op q a b:=by show cond (decide (q=q)) (j3 op q a b) none=_;simp
theorem acK(q:IntKind)(a b:Int):j3 .add q a b=some (.int q (q.wrap (a+b))):=by show some (Value.int q (mu q (Int.add a b)))=_;rw[jo];rfl
theorem i_sub(q:IntKind)(a b:Int):j3 .sub q a b=some (.int q (q.wrap (a-b))):=by show some (Value.int q (mu q (Int.sub a b)))=_;rw[jo];rfl
theorem i_mul(q:IntKind)(a b:Int):j3 .mul q a b=some (.int q (q.wrap (a*b))):=by show some (Value.int q (mu q (Int.mul a b)))=_;rw[jo];rfl
theorem i_quo(q:IntKind)(a b:Int):j3 .quo q a b=if b=0 then none else some (.int q (q.wrap (a.tdiv b))):=by show cond (eqB b 0) none (some (Value.int q (mu q (a.tdiv b))))=_;rw[jo,rI];by_cases h:b=0<;>simp[h]
theorem acJ(q:IntKind)(a b:Int):j3 .rem q a b=if b=0 then none else some (.int q (a.tmod b)):=by show cond (eqB b 0) none (some (Value.int q (a.tmod b)))=_;rw[rI];by_cases h:b=0<;>simp[h]
theorem i_eql(q:IntKind)(a b:Int):j3 .eql q a b=some (.bool (decide (a=b))):=by show some (Value.bool (eqB a b))=_;rw[rI]
theorem i_neq(q:IntKind)(a b:Int):j3 .neq q a b=some (.bool (!decide (a=b))):=by show some (Value.bool (!eqB a b))=_;rw[rI]
theorem i_lss(q:IntKind)(a b:Int):j3 .lss q a b=some (.bool (decide (a<b))):=by show some (Value.bool (ltB a b))=_;rw[lY]
theorem i_gtr(q:IntKind)(a b:Int):j3 .gtr q a b=some (.bool (decide (b<a))):=by show some (Value.bool (ltB b a))=_;rw[lY]
theorem i_leq(q:IntKind)(a b:Int):j3 .leq q a b=some (.bool (decide (a<=b))):=by show some (Value.bool (!ltB b a))=_;rw[lY,Cw]
theorem i_geq(q:IntKind)(a b:Int):j3 .geq q a b=some (.bool (decide (b<=a))):=by show some (Value.bool (!ltB a b))=_;rw[lY,Cw]
theorem Sq(a b:AT)(t:Bool):DR a b (.bool t)=some (cond t a b):=rfl
theorem LR(w t:Bool):ia w (.bool t)=cond w t (!t):=rfl
theorem aee(off b o:Nat):KF off (.pointer (some ⟨b,o,none⟩))=some (.pointer (some ⟨b,o+off,none⟩)):=rfl
theorem Np(a:Addr):vD (.pointer (some a))=some (.pointer (some a)):=rfl
theorem Rw(t:Bool):FN .not (.bool t)=some (.bool (!t)):=rfl
theorem Sa:pX e m n []=some ([],0):=rfl
theorem MJ(x:ROp)(l:List ROp):pX e m n (x::l)=Option.rec (motive:=λ_=>Option (List AT×Nat)) none (λp=>BU e m n p.1 p.2 x) (pX e m n l):=rfl
theorem adH(vs:List AT)(r i:Nat):BU e m n vs r (.v i)=some (iA e i::vs,r):=rfl
theorem MH(v:AT):yM [v]=v:=rfl
end
section
variable{μ:Type}[AMem μ]{P:SZ}
def OLe(x y:OR μ):Prop:=∀v m n r w,x=.ok v m n r w->y=.ok v m n r w
def CLe(x y:CR μ):Prop:=∀X e m n r w,x=.ok X e m n r w->y=.ok X e m n r w
theorem OLe.refl(x:OR μ):OLe x x:=λ_ _ _ _ _ h=>h
theorem CLe.refl(x:CR μ):CLe x x:=λ_ _ _ _ _ _ h=>h
theorem CLe.trans{x y z:CR μ}(h:CLe x y)(k:CLe y z):CLe x z:=λX v m n r w e=>k X v m n r w (h X v m n r w e)
theorem OLe.no(y:OR μ):OLe .no y:=λ_ _ _ _ _ h=>by cases h
theorem CLe.no(y:CR μ):CLe .no y:=λ_ _ _ _ _ _ h=>by cases h
def Bx(a b:Nat->List AT->μ->Nat->OR μ):Prop:=∀f args m n,OLe (a f args m n) (b f args m n)
def Ra(a b:AC->List AT->μ->Nat->CR μ):Prop:=∀c e m n,CLe (a c e m n) (b c e m n)
theorem ru{x y:OR μ}{f g:AT->μ->Nat->Nat->Nat->CR μ}(h:OLe x y)(hf:∀v m n r w,CLe (f v m n r w) (g v m n r w)):CLe (kS x f) (kS y g):=by
 cases x with
 |no=>exact CLe.no _
 |ok v m n r w=>rw[h _ _ _ _ _ rfl];exact hf v m n r w
theorem uK{x y:CR μ}{f g:AX->List AT->μ->Nat->Nat->Nat->CR μ}(h:CLe x y)(hf:∀X e m n r w,CLe (f X e m n r w) (g X e m n r w)):CLe (kq x f) (kq y g):=by
 cases x with
 |no=>exact CLe.no _
 |ok X e m n r w=>rw[h _ _ _ _ _ _ rfl];exact hf X e m n r w
theorem oB(b:Bool){x x' y y':CR μ}(h:CLe x x')(k:CLe y y'):CLe (cond b x y) (cond b x' y'):=by cases b<;>assumption
theorem ue{a b:Nat->List AT->μ->Nat->OR μ}(h:Bx a b)(e:List AT)(m:μ)(n:Nat)(o:AOp):OLe (gV P a e m n o) (gV P b e m n o):=by
 cases o
 case call f args=>exact h f _ m n
 case callv x args=>
  show OLe (oC a (evs e args) m n (ev e x)) (oC b (evs e args) m n (ev e x));generalize ev e x=v;unfold oC;split
  ·exact h _ _ m n
  ·exact OLe.refl _
 all_goals exact OLe.refl _
theorem Nh{a b:Nat->List AT->μ->Nat->OR μ}(h:Bx a b):∀(l:List AI) (e:List AT) (m:μ) (n r w:Nat),CLe (lj P a l e m n r w) (lj P b l e m n r w)
 |[],e,m,n,r,w=>CLe.refl _
 |i::l,e,m,n,r,w=>by
  have ih:=Nh h l
  cases i with
  |nop i=>exact ih e m n r w
  |op o=>exact ru (ue h e m n o) λv m n r' w'=>ih _ m n _ _
  |eff o=>exact ru (ue h e m n o) λv m n r' w'=>ih _ m n _ _
  |opg o gi gw=>exact oB _ (ru (ue h e m n o) λv m n r' w'=>ih _ m n _ _) (ih _ m n r w)
  |effg o gi gw=>exact oB _ (ru (ue h e m n o) λv m n r' w'=>ih _ m n _ _) (ih _ m n r w)
theorem Nn{bef k:Nat}{done:List (Nat×Nat×Nat)}{x y:OR μ}{f g:AT->μ->Nat->Nat->Nat->List (Nat×Nat×Nat)->CR μ}(h:OLe x y)(hf:∀v m n r w d,CLe (f v m n r w d) (g v m n r w d)):CLe (okD bef k done x f) (okD bef k done y g):=by refine ru h λv m n r w=>?_;rw[gX,gX,gX,gX];exact oB _ (hf v m n r w _) (oB _ (hf v m n r w _) (CLe.refl _))
theorem Du{a b:Nat->List AT->μ->Nat->OR μ}(h:Bx a b)(e:List AT)(m:μ)(n:Nat)(o:AOp):OLe (iQ P a e m n o) (iQ P b e m n o):=by
 unfold iQ;cases oG n e o
 ·exact OLe.refl _
 ·exact ue h e m n o
theorem Iv{a b:Nat->List AT->μ->Nat->OR μ}(h:Bx a b):∀(l:List AI) (bs:List Nat) (k:Nat) (done:List (Nat×Nat×Nat)) (e:List AT) (m:μ) (n r w:Nat),CLe (jY P a l bs k done e m n r w) (jY P b l bs k done e m n r w)
 |[],bs,k,done,e,m,n,r,w=>CLe.refl _
 |i::l,bs,k,done,e,m,n,r,w=>by
  have ih:=Iv h l;have h1:∀o,CLe (okD (bs.headD 0) k done (iQ P a e m n o) λv m n r' w' done=>jY P a l bs.tail (Nat.succ k) done (v::e) m n (OF r r') (OF w w'))
    (okD (bs.headD 0) k done (iQ P b e m n o) λv m n r' w' done=>jY P b l bs.tail (Nat.succ k) done (v::e) m n (OF r r') (OF w w')):=λo=>
   Nn (Du h e m n o) λv m n r' w' d=>ih _ _ _ _ m n _ _
  have h2:∀o,CLe (okD (bs.headD 0) k done (iQ P a e m n o) λ_ m n r' w' done=>jY P a l bs.tail (Nat.succ k) done e m n (OF r r') (OF w w'))
    (okD (bs.headD 0) k done (iQ P b e m n o) λ_ m n r' w' done=>jY P b l bs.tail (Nat.succ k) done e m n (OF r r') (OF w w')):=λo=>
   Nn (Du h e m n o) λv m n r' w' d=>ih _ _ _ _ m n _ _
  cases i with
  |nop i=>exact ih _ _ _ e m n r w
  |op o=>exact h1 o
  |eff o=>exact h2 o
  |opg o gi gw=>exact oB _ (h1 o) (ih _ _ _ _ m n r w)
  |effg o gi gw=>exact oB _ (h2 o) (ih _ _ _ _ m n r w)
theorem IX{E:Nat->Option AFn}{Y:Nat->List AT->μ->Nat->OR μ}{a b:AC->List AT->μ->Nat->CR μ}(h:Ra a b):Bx (im E Y a) (im E Y b):=by
 intro f args m n;show OLe (Option.rec (motive:=λ_=>OR μ) (Y f args m n) (pR a args m n) (E f)) (Option.rec (motive:=λ_=>OR μ) (Y f args m n) (pR b args m n) (E f))
 cases E f with
 |none=>exact OLe.refl _
 |some fn=>
  show OLe (cond (SF (kO args) fn.na) (CR.rec (motive:=λ_=>OR μ) .no (λx e m' n' r w=>lZ fn m n e m' n' r w x) (a fn.code args m n)) .no) (cond (SF (kO args) fn.na) (CR.rec (motive:=λ_=>OR μ) .no (λx e m' n' r w=>lZ fn m n e m' n' r w x) (b fn.code args m n)) .no);cases SF (kO args) fn.na
  ·exact OLe.refl _
  ·show OLe (CR.rec (motive:=λ_=>OR μ) .no (λx e m' n' r w=>lZ fn m n e m' n' r w x) (a fn.code args m n)) (CR.rec (motive:=λ_=>OR μ) .no (λx e m' n' r w=>lZ fn m n e m' n' r w x) (b fn.code args m n));have hc:=h fn.code args m n
   cases ha:a fn.code args m n with
   |no=>exact OLe.no _
   |ok X e m' n' r w=>rw[hc _ _ _ _ _ _ ha];exact OLe.refl _
theorem Pf(r w:Nat){x y:CR μ}(h:CLe x y):CLe (lH r w x) (lH r w y):=by
 cases x with
 |no=>exact CLe.no _
 |ok X e m n r' w'=>rw[h _ _ _ _ _ _ rfl];exact CLe.refl _
theorem AL{f g:List AT->μ->Nat->CR μ}(h:∀e m n,CLe (f e m n) (g e m n))(X:AX)(e:List AT)(m:μ)(n r w:Nat):CLe (ke f X e m n r w) (ke g X e m n r w):=by
 cases X with
 |norm=>exact Pf r w (h e m n)
 |exit i=>exact CLe.refl _
 |ret v=>exact CLe.refl _
def zw(P:SZ)(cal:Nat->List AT->μ->Nat->OR μ)(rec:AC->List AT->μ->Nat->CR μ)(c:AC)(e:List AT)(m:μ)(n:Nat):CR μ:=
 AC.casesOn (motive:=λ_=>CR μ) c
  (.ok .norm e m n 0 0)
  (λl=>lj P cal l e m n 0 0)
  (λl bs=>jY P cal l bs 0 [] e m n 0 0)
  (λa b=>kq (rec a e m n) (ke (rec b)))
  (λx a b=>lJ (rec a e m n) (rec b e m n) (ev e x))
  (λid _ b=>kq (rec b e m n) (oR id))
  (λsh b=>kq (rec b e m n) (ke (rec (.loop sh b))))
  (λsel d c=>rec c (Ek sel d e) m n)
  (λc sel d=>kq (rec c e m n) (rz sel d))
  (λid=>.ok (.exit id) e m n 0 0)
  (λrs=>tA e m n (pX e m n rs))
theorem Eu{ca cb:Nat->List AT->μ->Nat->OR μ}{a b:AC->List AT->μ->Nat->CR μ}(hc:Bx ca cb)(h:Ra a b)(c:AC)(e:List AT)(m:μ)(n:Nat):CLe (zw P ca a c e m n) (zw P cb b c e m n):=by
 cases c with
 |skip=>exact CLe.refl _
 |reg l=>exact Nh hc l e m n 0 0
 |regD l bs=>exact Iv hc l bs 0 [] e m n 0 0
 |seq x y=>exact uK (h x e m n) λX e m n r w=>AL (h y) X e m n r w
 |cond o x y=>
  show CLe (lJ (a x e m n) (a y e m n) (ev e o)) (lJ (b x e m n) (b y e m n) (ev e o));generalize ev e o=v;unfold lJ;split
  ·exact oB _ (h x e m n) (h y e m n)
  ·exact CLe.refl _
 |block id sh x=>exact uK (h x e m n) λX e m n r w=>CLe.refl _
 |loop sh x=>exact uK (h x e m n) λX e m n r w=>AL (h _) X e m n r w
 |pre sel d x=>exact h x _ m n
 |post x sel d=>exact uK (h x e m n) λX e m n r w=>CLe.refl _
 |exit id=>exact CLe.refl _
 |ret rs=>exact CLe.refl _
theorem s9{E:Nat->Option AFn}{Y:Nat->List AT->μ->Nat->OR μ}:∀k,Ra (exec P E Y k) (exec P E Y (k+1))
 |0=>λ_ _ _ _=>CLe.no _
 |k+1=>λc e m n=>Eu (IX (s9 k)) (s9 k) c e m n
theorem vK{E:Nat->Option AFn}{Y:Nat->List AT->μ->Nat->OR μ}{k k':Nat}(h:k<=k'):Ra (exec P E Y k) (exec P E Y k'):=by
 induction h with
 |refl=>exact λ_ _ _ _=>CLe.refl _
 |step _ ih=>exact λc e m n=>(ih c e m n).trans (s9 _ c e m n)
end
open Go Go.RowKit
section
variable{μ:Type}[AMem μ]{ρ:Ren}{V:Nat->Option Blk}{w w':World}{B:Nat}
theorem Post.rA{n:Nat}{m:μ}(hm:MRel ρ V w B)(hb:Below w.heap.size w w'):Post ρ V w B n m n 0 ρ w':=
 ⟨Ren.le_refl ρ,λ_ _ h=>.inl h,by
  rw[qW]
  exact⟨λb p O hp hO=>(hm.blk b p O hp hO).mono (Ren.le_refl ρ) (hb.block _ (hm.fresh b p hp)),hm.ij,λb p hp=>Nat.lt_of_lt_of_le (hm.fresh b p hp) hb.size,Nat.le_trans hm.le hb.size,hm.gl.mono (hb.mono hm.le)⟩,
  hb.mono hm.le,IN _,λk hk _=>hb.block k hk,λ_ _ h=>.inl h,λb h=>by simp at h⟩
end
end Go.Am
namespace Go.Am.V
open Go Go.Am Go.RowKit
def vE(n len:Nat):Nat:=Nat.shiftLeft (Nat.sub (Nat.pow 2 len) 1) n
theorem pE(n len b:Nat):(vE n len).testBit b=(decide (n<=b)&&decide (b<n+len)):=by show(((2 ^ len-1) <<< n).testBit b)=_;rw[Nat.testBit_shiftLeft,Nat.testBit_two_pow_sub_one,Bool.eq_iff_iff];simp;omega
def pS(a b:Nat->List AT->FM->Nat->OR FM):Nat->List AT->FM->Nat->OR FM:=λf args m n=>
 match a f args m n with
 | .no=>b f args m n
 | .ok v m n r w=>.ok v m n r w
theorem mX{a b:Nat->List AT->FM->Nat->OR FM}(ha:il a)(hb:il b):il (pS a b):=by
 intro f args m n v m' n' r wm h;unfold pS at h;split at h
 ·exact hb _ _ _ _ _ _ _ _ _ h
 ·rename_i he;rw[h]at he;exact ha _ _ _ _ _ _ _ _ _ he
theorem mW{P:SZ}{a b:Nat->List AT->FM->Nat->OR FM}(ha:iw P a)(hb:iw P b):iw P (pS a b):=by
 intro f args m n v m' n' r wm h;unfold pS at h;split at h
 ·exact hb _ _ _ _ _ _ _ _ _ h
 ·rename_i he;rw[h]at he;exact ha _ _ _ _ _ _ _ _ _ he
def FM0:FM:=λ_=>none
def isT:AT->Bool
 | .bool b=>b
 |_=>false
theorem ad4{v:AT}(h:isT v=true):v=.bool true:=by
 unfold isT at h;split at h
 ·rw[h]
 ·cases h
def GZ(x:OR FM):Bool:=OR.rec (motive:=λ_=>Bool) false (λv _ _ _ _=>isT v) x
theorem KB{x:OR FM}(h:GZ x=true):∃m n r w,x=.ok (.bool true) m n r w:=by
 cases x with
 |no=>cases h
 |ok v m n r w=>exact⟨_,_,_,_,by rw[ad4 (v:=v) h]⟩
theorem Bf{args:List AT}(h:args.all gy=true):∀(ρ:Ren),∀a∈args,VRel ρ a a:=λρ a ha=>kE ρ (List.all_eq_true.1 h a ha)
end Go.Am.V
namespace Go.Am
open Go
section
variable{μ:Type}[AMem μ]{P:SZ}{E:Nat->Option AFn}{Y:Nat->List AT->μ->Nat->OR μ}
open Classical in
def gD(P:SZ)(E:Nat->Option AFn)(Y:Nat->List AT->μ->Nat->OR μ)(c:AC)(e:List AT)(m:μ)(n:Nat):CR μ:=if h:∃k X e' m' n' r w,exec P E Y k c e m n=.ok X e' m' n' r w then exec P E Y h.choose c e m n else .no
theorem Et{c:AC}{e:List AT}{m:μ}{n k:Nat}{X:AX}{e':List AT}{m':μ}{n' r w:Nat}(h:exec P E Y k c e m n=.ok X e' m' n' r w):gD P E Y c e m n=.ok X e' m' n' r w:=by have hx:∃k X e' m' n' r w,exec P E Y k c e m n=.ok X e' m' n' r w:=⟨k,X,e',m',n',r,w,h⟩;unfold gD;rw[dif_pos hx];obtain⟨X2,e2,m2,n2,r2,w2,h2⟩:=hx.choose_spec;have a:=vK (Nat.le_max_left k hx.choose) c e m n _ _ _ _ _ _ h;have b:=vK (Nat.le_max_right k hx.choose) c e m n _ _ _ _ _ _ h2;rw[a]at b;rw[h2,b]
theorem kx{c:AC}{e:List AT}{m:μ}{n:Nat}{X:AX}{e':List AT}{m':μ}{n' r w:Nat}(h:gD P E Y c e m n=.ok X e' m' n' r w):∃k,exec P E Y k c e m n=.ok X e' m' n' r w:=by
 unfold gD at h;split at h
 ·exact⟨_,h⟩
 ·cases h
theorem Es(k:Nat):Ra (exec P E Y k) (gD P E Y):=λc e m n X e' m' n' r w h=>Et h
def Ae(x:OR μ)(y:Nat->OR μ):Prop:=∀v m n r w,x=.ok v m n r w->∃k,∀k',k<=k'->y k'=.ok v m n r w
def lE(x:CR μ)(y:Nat->CR μ):Prop:=∀X e m n r w,x=.ok X e m n r w->∃k,∀k',k<=k'->y k'=.ok X e m n r w
theorem Ae.const(x:OR μ):Ae x (λ_=>x):=λ_ _ _ _ _ h=>⟨0,λ_ _=>h⟩
theorem lE.const(x:CR μ):lE x (λ_=>x):=λ_ _ _ _ _ _ h=>⟨0,λ_ _=>h⟩
theorem kM(c:AC)(e:List AT)(m:μ)(n:Nat):lE (gD P E Y c e m n) (λk=>exec P E Y k c e m n):=by intro X e' m' n' r w h;obtain⟨k,hk⟩:=kx h;exact⟨k,λk' hk'=>vK hk' c e m n _ _ _ _ _ _ hk⟩
theorem pC{x:OR μ}{y:Nat->OR μ}{f:AT->μ->Nat->Nat->Nat->CR μ}{g:Nat->AT->μ->Nat->Nat->Nat->CR μ}(h:Ae x y)(hf:∀v m n r w,lE (f v m n r w) (λk=>g k v m n r w)):lE (kS x f) (λk=>kS (y k) (g k)):=by
 intro X e m n r w he
 cases hx:x with
 |no=>rw[hx]at he;cases he
 |ok v m1 n1 r1 w1=>rw[hx]at he;obtain⟨k1,h1⟩:=h _ _ _ _ _ hx;obtain⟨k2,h2⟩:=hf v m1 n1 r1 w1 X e m n r w he;refine⟨max k1 k2,λk' hk'=>?_⟩;show kS (y k') (g k')=_;rw[h1 k' (by omega)];exact h2 k' (by omega)
theorem td{x:CR μ}{y:Nat->CR μ}{f:AX->List AT->μ->Nat->Nat->Nat->CR μ}{g:Nat->AX->List AT->μ->Nat->Nat->Nat->CR μ}(h:lE x y)(hf:∀v e m n r w,lE (f v e m n r w) (λk=>g k v e m n r w)):lE (kq x f) (λk=>kq (y k) (g k)):=by
 intro X e m n r w he
 cases hx:x with
 |no=>rw[hx]at he;cases he
 |ok v e1 m1 n1 r1 w1=>rw[hx]at he;obtain⟨k1,h1⟩:=h _ _ _ _ _ _ hx;obtain⟨k2,h2⟩:=hf v e1 m1 n1 r1 w1 X e m n r w he;refine⟨max k1 k2,λk' hk'=>?_⟩;show kq (y k') (g k')=_;rw[h1 k' (by omega)];exact h2 k' (by omega)
theorem oA(b:Bool){x x':CR μ}{y y':Nat->CR μ}(h:lE x y)(k:lE x' y'):lE (cond b x x') (λk=>cond b (y k) (y' k)):=by cases b<;>assumption
theorem uS(f:Nat)(args:List AT)(m:μ)(n:Nat):Ae (im E Y (gD P E Y) f args m n) (λk=>im E Y (exec P E Y k) f args m n):=by
 intro v m' n' r w h;show∃k,∀k',k<=k'->Option.rec (motive:=λ_=>OR μ) (Y f args m n) (pR (exec P E Y k') args m n) (E f)=_;replace h:Option.rec (motive:=λ_=>OR μ) (Y f args m n) (pR (gD P E Y) args m n) (E f)=_:=h
 cases hE:E f with
 |none=>rw[hE]at h;exact⟨0,λ_ _=>h⟩
 |some fn=>
  rw[hE]at h;replace h:cond (SF (kO args) fn.na) (CR.rec (motive:=λ_=>OR μ) .no (λx e m' n' r w=>lZ fn m n e m' n' r w x) (gD P E Y fn.code args m n)) .no=_:=h;show∃k,∀k',k<=k'->cond (SF (kO args) fn.na) (CR.rec (motive:=λ_=>OR μ) .no (λx e m' n' r w=>lZ fn m n e m' n' r w x) (exec P E Y k' fn.code args m n)) .no=_;cases hb:SF (kO args) fn.na
  ·rw[hb]at h;cases h
  ·rw[hb,cond_true]at h
   cases hx:gD P E Y fn.code args m n with
   |no=>rw[hx]at h;cases h
   |ok X e2 m2 n2 r2 w2=>
    rw[hx]at h;obtain⟨k,hk⟩:=kM fn.code args m n _ _ _ _ _ _ hx
    exact⟨k,λk' hk'=>by
     have hk2:exec P E Y k' fn.code args m n=_:=hk k' hk'
     rw[hk2,cond_true];exact h⟩
theorem qY(e:List AT)(m:μ)(n:Nat)(o:AOp):Ae (gV P (im E Y (gD P E Y)) e m n o) (λk=>gV P (im E Y (exec P E Y k)) e m n o):=by
 cases o
 case call f args=>exact uS f _ m n
 case callv x args=>
  show Ae (oC (im E Y (gD P E Y)) (evs e args) m n (ev e x)) (λk=>oC (im E Y (exec P E Y k)) (evs e args) m n (ev e x));generalize ev e x=v;unfold oC;split
  ·exact uS _ _ m n
  ·exact Ae.const _
 all_goals exact Ae.const _
theorem It:∀(l:List AI) (e:List AT) (m:μ) (n r w:Nat),lE (lj P (im E Y (gD P E Y)) l e m n r w) (λk=>lj P (im E Y (exec P E Y k)) l e m n r w)
 |[],e,m,n,r,w=>lE.const _
 |i::l,e,m,n,r,w=>by
  have ih:=It l
  cases i with
  |nop i=>exact ih e m n r w
  |op o=>exact pC (qY e m n o) λv m n r' w'=>ih _ m n _ _
  |eff o=>exact pC (qY e m n o) λv m n r' w'=>ih _ m n _ _
  |opg o gi gw=>exact oA _ (pC (qY e m n o) λv m n r' w'=>ih _ m n _ _) (ih _ m n r w)
  |effg o gi gw=>exact oA _ (pC (qY e m n o) λv m n r' w'=>ih _ m n _ _) (ih _ m n r w)
theorem Ix{bef q:Nat}{done:List (Nat×Nat×Nat)}{x:OR μ}{y:Nat->OR μ}{f:AT->μ->Nat->Nat->Nat->List (Nat×Nat×Nat)->CR μ}{g:Nat->AT->μ->Nat->Nat->Nat->List (Nat×Nat×Nat)->CR μ}(h:Ae x y)(hf:∀v m n r w d,lE (f v m n r w d) (λk=>g k v m n r w d)):
  lE (okD bef q done x f) (λk=>okD bef q done (y k) (g k)):=by
 refine pC (g:=λk v m n r w=>oq r λr=>oq w λw=>cond (SF (OF r w) 0) (g k v m n r w done) (cond (apart bef r w done) (g k v m n r w ((q,r,w)::done)) .no)) h λv m n r w=>?_;rw[gX,gX];simp only[gX];exact oA _ (hf v m n r w _) (oA _ (hf v m n r w _) (lE.const _))
theorem AB(e:List AT)(m:μ)(n:Nat)(o:AOp):Ae (iQ P (im E Y (gD P E Y)) e m n o) (λk=>iQ P (im E Y (exec P E Y k)) e m n o):=by
 unfold iQ;cases oG n e o
 ·exact Ae.const _
 ·exact qY e m n o
theorem DT:∀(l:List AI) (bs:List Nat) (q:Nat) (done:List (Nat×Nat×Nat)) (e:List AT) (m:μ) (n r w:Nat),lE (jY P (im E Y (gD P E Y)) l bs q done e m n r w) (λk=>jY P (im E Y (exec P E Y k)) l bs q done e m n r w)
 |[],bs,q,done,e,m,n,r,w=>lE.const _
 |i::l,bs,q,done,e,m,n,r,w=>by
  have ih:=DT l;have h1:∀o,lE (okD (bs.headD 0) q done (iQ P (im E Y (gD P E Y)) e m n o) λv m n r' w' done=>jY P (im E Y (gD P E Y)) l bs.tail (Nat.succ q) done (v::e) m n (OF r r') (OF w w'))
    (λk=>okD (bs.headD 0) q done (iQ P (im E Y (exec P E Y k)) e m n o) λv m n r' w' done=>jY P (im E Y (exec P E Y k)) l bs.tail (Nat.succ q) done (v::e) m n (OF r r') (OF w w')):=λo=>
   Ix (AB e m n o) λv m n r' w' d=>ih _ _ _ _ m n _ _
  have h2:∀o,lE (okD (bs.headD 0) q done (iQ P (im E Y (gD P E Y)) e m n o) λ_ m n r' w' done=>jY P (im E Y (gD P E Y)) l bs.tail (Nat.succ q) done e m n (OF r r') (OF w w'))
    (λk=>okD (bs.headD 0) q done (iQ P (im E Y (exec P E Y k)) e m n o) λ_ m n r' w' done=>jY P (im E Y (exec P E Y k)) l bs.tail (Nat.succ q) done e m n (OF r r') (OF w w')):=λo=>
   Ix (AB e m n o) λv m n r' w' d=>ih _ _ _ _ m n _ _
  cases i with
  |nop i=>exact ih _ _ _ e m n r w
  |op o=>exact h1 o
  |eff o=>exact h2 o
  |opg o gi gw=>exact oA _ (h1 o) (ih _ _ _ _ m n r w)
  |effg o gi gw=>exact oA _ (h2 o) (ih _ _ _ _ m n r w)
theorem LI(r w:Nat){x:CR μ}{y:Nat->CR μ}(h:lE x y):lE (lH r w x) (λk=>lH r w (y k)):=by
 intro X e m n r' w' he
 cases hx:x with
 |no=>rw[hx]at he;cases he
 |ok X1 e1 m1 n1 r1 w1=>rw[hx]at he;obtain⟨k,hk⟩:=h _ _ _ _ _ _ hx;exact⟨k,λk' hk'=>by show lH r w (y k')=_;rw[hk k' hk'];exact he⟩
theorem yX{f:List AT->μ->Nat->CR μ}{g:Nat->List AT->μ->Nat->CR μ}(h:∀e m n,lE (f e m n) (λk=>g k e m n))(X:AX)(e:List AT)(m:μ)(n r w:Nat):lE (ke f X e m n r w) (λk=>ke (g k) X e m n r w):=by
 cases X with
 |norm=>exact LI r w (h e m n)
 |exit i=>exact lE.const _
 |ret v=>exact lE.const _
theorem lf(c:AC)(e:List AT)(m:μ)(n:Nat):gD P E Y c e m n=zw P (im E Y (gD P E Y)) (gD P E Y) c e m n:=by
 have key:lE (zw P (im E Y (gD P E Y)) (gD P E Y) c e m n) (λk=>zw P (im E Y (exec P E Y k)) (exec P E Y k) c e m n):=by
  cases c with
  |skip=>exact lE.const _
  |reg l=>exact It l e m n 0 0
  |regD l bs=>exact DT l bs 0 [] e m n 0 0
  |seq x y=>exact td (g:=λk=>ke (exec P E Y k y)) (kM x e m n) λX e m n r w=>yX (kM y) X e m n r w
  |cond o x y=>
   show lE (lJ (gD P E Y x e m n) (gD P E Y y e m n) (ev e o)) (λk=>lJ (exec P E Y k x e m n) (exec P E Y k y e m n) (ev e o));generalize ev e o=v;unfold lJ;split
   ·exact oA _ (kM x e m n) (kM y e m n)
   ·exact lE.const _
  |block id sh x=>exact td (g:=λ_=>oR id) (kM x e m n) λX e m n r w=>lE.const _
  |loop sh x=>exact td (g:=λk=>ke (exec P E Y k (.loop sh x))) (kM x e m n) λX e m n r w=>yX (kM _) X e m n r w
  |pre sel d x=>exact kM x _ m n
  |post x sel d=>exact td (g:=λ_=>rz sel d) (kM x e m n) λX e m n r w=>lE.const _
  |exit id=>exact lE.const _
  |ret rs=>exact lE.const _
 have hle:CLe (gD P E Y c e m n) (zw P (im E Y (gD P E Y)) (gD P E Y) c e m n):=by intro X e' m' n' r w h;obtain⟨k,hk⟩:=kx h;have hs:=s9 k c e m n _ _ _ _ _ _ hk;exact Eu (IX (Es k)) (Es k) c e m n _ _ _ _ _ _ hs
 cases hx:zw P (im E Y (gD P E Y)) (gD P E Y) c e m n with
 |no=>
  cases hw:gD P E Y c e m n with
  |no=>rfl
  |ok X e' m' n' r w=>have:=hle _ _ _ _ _ _ hw;rw[hx]at this;cases this
 |ok X e' m' n' r w=>obtain⟨k,hk⟩:=key _ _ _ _ _ _ hx;exact Et (k:=k+1) (hk k (IN _))
end
section
variable{μ:Type}[AMem μ]{P:SZ}{E:Nat->Option AFn}{Y:Nat->List AT->μ->Nat->OR μ}{e:List AT}{m:μ}{n:Nat}
theorem ac':gD P E Y .skip e m n=.ok .norm e m n 0 0:=lf ..
theorem w_reg(l:List AI):gD P E Y (.reg l) e m n=lj P (im E Y (gD P E Y)) l e m n 0 0:=lf ..
theorem ada(l:List AI)(bs:List Nat):gD P E Y (.regD l bs) e m n=jY P (im E Y (gD P E Y)) l bs 0 [] e m n 0 0:=lf ..
theorem w_seq(a b:AC):gD P E Y (.seq a b) e m n=kq (gD P E Y a e m n) (ke (gD P E Y b)):=lf ..
theorem adg(x:Opd)(a b:AC):gD P E Y (.cond x a b) e m n=lJ (gD P E Y a e m n) (gD P E Y b e m n) (ev e x):=lf ..
theorem Ro(id:Nat)(sh:List (List Nat))(b:AC):gD P E Y (.block id sh b) e m n=kq (gD P E Y b e m n) (oR id):=lf ..
theorem ade(sh:List (List Nat))(b:AC):gD P E Y (.loop sh b) e m n=kq (gD P E Y b e m n) (ke (gD P E Y (.loop sh b))):=lf ..
theorem w_pre(sel:List Nat)(d:Nat)(c:AC):gD P E Y (.pre sel d c) e m n=gD P E Y c (Ek sel d e) m n:=lf ..
theorem adb(c:AC)(sel:List Nat)(d:Nat):gD P E Y (.post c sel d) e m n=kq (gD P E Y c e m n) (rz sel d):=lf ..
theorem adf(id:Nat):gD P E Y (.exit id) e m n=.ok (.exit id) e m n 0 0:=lf ..
theorem w_ret(rs:List ROp):gD P E Y (.ret rs) e m n=tA e m n (pX e m n rs):=lf ..
end
section
variable{μ:Type}[AMem μ]{P:SZ}{rec:Nat->List AT->μ->Nat->OR μ}
inductive OS(μ:Type) where
 |no
 |ok (e:List AT) (m:μ) (n r w:Nat)
def kZ(e:List AT)(r w:Nat):OR μ->OS μ
 | .no=>.no
 | .ok v m n r' w'=>.ok (v::e) m n (OF r r') (OF w w')
def zA(e:List AT)(r w:Nat):OR μ->OS μ
 | .no=>.no
 | .ok _ m n r' w'=>.ok e m n (OF r r') (OF w w')
def we(P:SZ)(rec:Nat->List AT->μ->Nat->OR μ):OS μ->AI->OS μ
 | .no,_=>.no
 | .ok e m n r w,.nop _=>.ok e m n r w
 | .ok e m n r w,.op o=>kZ e r w (gV P rec e m n o)
 | .ok e m n r w,.eff o=>zA e r w (gV P rec e m n o)
 | .ok e m n r w,.opg o gi gw=>cond (ia gw (iA e gi)) (kZ e r w (gV P rec e m n o)) (.ok (undef::e) m n r w)
 | .ok e m n r w,.effg o gi gw=>cond (ia gw (iA e gi)) (zA e r w (gV P rec e m n o)) (.ok e m n r w)
def rf(P:SZ)(rec:Nat->List AT->μ->Nat->OR μ)(l:List AI)(s:OS μ):OS μ:=l.foldl (we P rec) s
def vB:OS μ->CR μ
 | .no=>.no
 | .ok e m n r w=>.ok .norm e m n r w
theorem Ij(l:List AI):rf P rec l .no=.no:=by
 induction l with
 |nil=>rfl
 |cons i l ih=>show rf P rec l (we P rec .no i)=_;cases i<;>exact ih
theorem Is:∀(l:List AI) (e:List AT) (m:μ) (n r w:Nat),lj P rec l e m n r w=vB (rf P rec l (.ok e m n r w))
 |[],e,m,n,r,w=>o_nil
 |i::l,e,m,n,r,w=>by
  have ih:=Is l
  have hk:∀x:OR μ,kS x (λv m n r' w'=>lj P rec l (v::e) m n (OF r r') (OF w w'))=vB (rf P rec l (kZ e r w x)):=λx=>by
   cases x with
   |no=>show CR.no=vB (rf P rec l .no);rw[Ij];rfl
   |ok v m1 n1 r1 w1=>exact ih _ m1 n1 _ _
  have hd:∀x:OR μ,kS x (λ_ m n r' w'=>lj P rec l e m n (OF r r') (OF w w'))=vB (rf P rec l (zA e r w x)):=λx=>by
   cases x with
   |no=>show CR.no=vB (rf P rec l .no);rw[Ij];rfl
   |ok v m1 n1 r1 w1=>exact ih _ m1 n1 _ _
  cases i with
  |nop i=>exact ih e m n r w
  |op o=>exact hk _
  |eff o=>exact hd _
  |opg o gi gw=>
   show cond (ia gw (iA e gi)) (kS (gV P rec e m n o) λv m n r' w'=>lj P rec l (v::e) m n (OF r r') (OF w w')) (lj P rec l (undef::e) m n r w)=vB (rf P rec l (cond (ia gw (iA e gi)) (kZ e r w (gV P rec e m n o)) (.ok (undef::e) m n r w)));cases ia gw (iA e gi)
   ·exact ih _ m n r w
   ·exact hk _
  |effg o gi gw=>
   show cond (ia gw (iA e gi)) (kS (gV P rec e m n o) λ_ m n r' w'=>lj P rec l e m n (OF r r') (OF w w')) (lj P rec l e m n r w)=vB (rf P rec l (cond (ia gw (iA e gi)) (zA e r w (gV P rec e m n o)) (.ok e m n r w)));cases ia gw (iA e gi)
   ·exact ih e m n r w
   ·exact hd _
theorem q_nop(e:List AT)(m:μ)(n r w i:Nat):we P rec (.ok e m n r w) (.nop i)=.ok e m n r w:=rfl
theorem q_op(e:List AT)(m:μ)(n r w:Nat)(o:AOp):we P rec (.ok e m n r w) (.op o)=kZ e r w (gV P rec e m n o):=rfl
theorem q_eff(e:List AT)(m:μ)(n r w:Nat)(o:AOp):we P rec (.ok e m n r w) (.eff o)=zA e r w (gV P rec e m n o):=rfl
theorem q_opg(e:List AT)(m:μ)(n r w gi:Nat)(gw:Bool)(o:AOp):we P rec (.ok e m n r w) (.opg o gi gw)=cond (ia gw (iA e gi)) (kZ e r w (gV P rec e m n o)) (.ok (undef::e) m n r w):=rfl
theorem adL(e:List AT)(m:μ)(n r w gi:Nat)(gw:Bool)(o:AOp):we P rec (.ok e m n r w) (.effg o gi gw)=cond (ia gw (iA e gi)) (zA e r w (gV P rec e m n o)) (.ok e m n r w):=rfl
theorem aaJ(e:List AT)(m:μ)(v:AT)(n r w r' w':Nat):kZ e r w (.ok v m n r' w')=.ok (v::e) m n (OF r r') (OF w w'):=rfl
theorem Od(e:List AT)(m:μ)(v:AT)(n r w r' w':Nat):zA e r w (.ok v m n r' w')=.ok e m n (OF r r') (OF w w'):=rfl
theorem adO(e:List AT)(m:μ)(n r w:Nat):vB (.ok e m n r w)=.ok .norm e m n r w:=rfl
end
section
variable{μ:Type}[AMem μ]{P:SZ}{E:Nat->Option AFn}{Y:Nat->List AT->μ->Nat->OR μ}{e:List AT}{m:μ}{n:Nat}
def fL(P:SZ)(E:Nat->Option AFn)(Y:Nat->List AT->μ->Nat->OR μ):Nat->List AT->μ->Nat->OR μ:=im E Y (gD P E Y)
theorem v_reg(l:List AI):gD P E Y (.reg l) e m n=vB (rf P (fL P E Y) l (.ok e m n 0 0)):=by rw[w_reg,Is];rfl
def zn(fn:AFn)(m0:μ)(n0:Nat):CR μ->OR μ
 | .no=>.no
 | .ok X e m n r w=>lZ fn m0 n0 e m n r w X
theorem lT{f:Nat}{fn:AFn}{args:List AT}(hE:E f=some fn)(ha:kO args=fn.na):fL P E Y f args m n=zn fn m n (gD P E Y fn.code args m n):=by show Option.rec (motive:=λ_=>OR μ) (Y f args m n) (pR (gD P E Y) args m n) (E f)=_;rw[hE];show cond (SF (kO args) fn.na) (CR.rec (motive:=λ_=>OR μ) .no (λx e m' n' r w=>lZ fn m n e m' n' r w x) (gD P E Y fn.code args m n)) .no=_;rw[ha,Nat.beq_refl];cases gD P E Y fn.code args m n<;>rfl
theorem kU{f:Nat}{args:List AT}(hE:E f=none):fL P E Y f args m n=Y f args m n:=by show Option.rec (motive:=λ_=>OR μ) (Y f args m n) (pR (gD P E Y) args m n) (E f)=_;rw[hE]
theorem zL{f:Nat}{args:List AT}{v:AT}{m':μ}{n' r w:Nat}(h:fL P E Y f args m n=.ok v m' n' r w):∃k,im E Y (exec P E Y k) f args m n=.ok v m' n' r w:=by obtain⟨k,hk⟩:=uS (P:=P) f args m n v m' n' r w h;exact⟨k,hk k (IN _)⟩
theorem lz{fn:AFn}{m0:μ}{n0:Nat}(e:List AT)(v:AT)(n r w:Nat):zn fn m0 n0 (.ok (.ret v) e m n r w)=iI m0 n0 v m n r w:=rfl
theorem nh{m0:μ}{n0:Nat}{v:AT}{n r w:Nat}(hv:gy v=true)(hw:SL w (bit n0)=0):iI m0 n0 v m n r w=.ok v m0 n0 (SL r (bit n0)) 0:=by unfold iI;rw[hv,hw];show cond (true&&SF 0 0) _ _=_;rw[gX];rfl
theorem oV{m0:μ}{n0:Nat}{v:AT}{n r w:Nat}(hv:gy v=false):iI m0 n0 v m n r w=.ok v m n r w:=by unfold iI;rw[hv];rfl
end
theorem Dl(w:Bool):ia w undef=false:=rfl
theorem Gz(k:IntKind):iB (.int k 0)=some 0:=rfl
theorem Kd(k:IntKind):iB (.int k 1)=some 1:=rfl
theorem Nr(k:IntKind)(i:Nat):iB (.int k (i:Int))=some i:=rfl
theorem Gt(f:Nat->Option AT)(i:Nat):za f (some i)=f i:=rfl
theorem ig{m:FM}{n b:Nat}(h:b<n):jc m n b=m b:=by show cond (Te b n) (m b) none=m b;rw[show Te b n=true from UM h];rfl
def Gv(x:CR FM)(Q:AX->List AT->FM->Nat->Nat->Prop):Prop:=
 match x with
 | .no=>False
 | .ok X e m n _ w=>Q X e m n w
theorem Gv.mono{x:CR FM}{Q Q':AX->List AT->FM->Nat->Nat->Prop}(h:Gv x Q)(hq:∀X e m n w,Q X e m n w->Q' X e m n w):Gv x Q':=by
 cases x with
 |no=>exact h
 |ok X e m n r w=>exact hq _ _ _ _ _ h
theorem Rc(r w:Nat)(x:CR FM)(Q:AX->List AT->FM->Nat->Nat->Prop):Gv (lH r w x) Q=Gv x (λX e m n w'=>Q X e m n (OF w w')):=by cases x<;>rfl
theorem kF{x:CR FM}{Q:AX->List AT->FM->Nat->Nat->Prop}(h:Gv x Q):∃X e m n r w,x=.ok X e m n r w/\Q X e m n w:=by
 cases x with
 |no=>exact h.elim
 |ok X e m n r w=>exact⟨X,e,m,n,r,w,rfl,h⟩
def Pure(x:OR FM)(m:FM)(n:Nat)(v:AT):Prop:=∃r,x=.ok v m n r 0
theorem Sj{fn:AFn}{m0:FM}{n0:Nat}{x:CR FM}{v:AT}(hv:gy v=true)(h:Gv x λX _ _ _ w=>X=.ret v/\SL w (bit n0)=0):Pure (zn fn m0 n0 x) m0 n0 v:=by obtain⟨X,e,m,n,r,w,rfl,rfl,hw⟩:=kF h;rw[lz];exact⟨_,nh hv hw⟩
end Go.Am
namespace Go.Am.CR
open Go Go.Am
section
variable{P:SZ}{E:Nat->Option AFn}{Y:Nat->List AT->FM->Nat->OR FM}{e:List AT}{m:FM}{n:Nat}
end
noncomputable abbrev PG:SZ:=SR
def adl:List (Nat×AFn):=tab.filter λp=>!(SF p.1 10 || SF p.1 16)
def EL:Nat->Option AFn:=look adl
theorem e3:EL 3=some ac3:=rfl
theorem e4:EL 4=some ac4:=rfl
theorem e5:EL 5=some ac5:=rfl
theorem e6:EL 6=some ac6:=rfl
theorem e7:EL 7=some ac7:=rfl
theorem e8:EL 8=some ac8:=rfl
theorem e9:EL 9=some ac9:=rfl
theorem e10:EL 10=none:=rfl
theorem e11:EL 11=some afx:=rfl
theorem e12:EL 12=some afw:=rfl
theorem e14:EL 14=some afv:=rfl
theorem e15:EL 15=some afu:=rfl
theorem e16:EL 16=none:=rfl
theorem e17:EL 17=some aft:=rfl
theorem e18:EL 18=some Ab:=rfl
theorem e19:EL 19=some afs:=rfl
theorem e20:EL 20=some afr:=rfl
theorem e21:EL 21=some afq:=rfl
theorem e22:EL 22=some afp:=rfl
theorem e23:EL 23=some acn:=rfl
theorem e24:EL 24=some afo:=rfl
theorem e32:EL 32=some afl:=rfl
theorem e33:EL 33=some afk:=rfl
theorem e34:EL 34=some afj:=rfl
theorem e35:EL 35=some ab8:=rfl
theorem e36:EL 36=some afi:=rfl
theorem e37:EL 37=some afh:=rfl
theorem e40:EL 40=some afg:=rfl
theorem e41:EL 41=some aff:=rfl
theorem e42:EL 42=some afe:=rfl
theorem e43:EL 43=some afd:=rfl
theorem e44:EL 44=some afc:=rfl
theorem e45:EL 45=some afb:=rfl
theorem e46:EL 46=some afa:=rfl
theorem e49:EL 49=some ae':=rfl
theorem e50:EL 50=some ae9:=rfl
theorem e51:EL 51=some ae8:=rfl
theorem e52:EL 52=some ae7:=rfl
theorem e53:EL 53=some ab2:=rfl
theorem e54:EL 54=some ae6:=rfl
theorem e55:EL 55=some ae5:=rfl
theorem e57:EL 57=some ab1:=rfl
theorem e58:EL 58=some ae4:=rfl
theorem e59:EL 59=some ae3:=rfl
theorem e60:EL 60=some ae2:=rfl
theorem e61:EL 61=some ab0:=rfl
theorem e87:EL 87=some aeR:=rfl
theorem e88:EL 88=some aeQ:=rfl
theorem e89:EL 89=some aeP:=rfl
theorem e90:EL 90=some aeO:=rfl
theorem e91:EL 91=some aeN:=rfl
theorem e92:EL 92=some aeM:=rfl
theorem e93:EL 93=some aeL:=rfl
theorem e94:EL 94=some aeK:=rfl
theorem e95:EL 95=some aeJ:=rfl
theorem e97:EL 97=some aeI:=rfl
theorem e98:EL 98=some aeH:=rfl
theorem e99:EL 99=some aeG:=rfl
theorem e100:EL 100=some Q7:=rfl
theorem e101:EL 101=some Q6:=rfl
theorem e102:EL 102=some Q5:=rfl
theorem e103:EL 103=some Ji:=rfl
theorem e104:EL 104=some Q4:=rfl
theorem e105:EL 105=some Q3:=rfl
theorem e106:EL 106=some Jh:=rfl
theorem e107:EL 107=some Q2:=rfl
theorem e108:EL 108=some Jg:=rfl
theorem e109:EL 109=some Q0:=rfl
theorem e110:EL 110=some QZ:=rfl
theorem e111:EL 111=some QY:=rfl
theorem e117:EL 117=some QX:=rfl
theorem e118:EL 118=some QW:=rfl
theorem e119:EL 119=some QV:=rfl
theorem e120:EL 120=some QU:=rfl
theorem e121:EL 121=some QT:=rfl
theorem e123:EL 123=some QS:=rfl
theorem e124:EL 124=some QR:=rfl
theorem e126:EL 126=some QQ:=rfl
theorem e127:EL 127=some QP:=rfl
theorem e165:EL 165=some QM:=rfl
theorem e166:EL 166=some QL:=rfl
theorem e167:EL 167=some QK:=rfl
theorem e168:EL 168=some QJ:=rfl
theorem e169:EL 169=some QI:=rfl
theorem e170:EL 170=some QH:=rfl
theorem e171:EL 171=some QG:=rfl
theorem e172:EL 172=some QF:=rfl
theorem e173:EL 173=some QE:=rfl
theorem e174:EL 174=some QD:=rfl
theorem e185:EL 185=some Jf:=rfl
theorem e186:EL 186=some QC:=rfl
theorem e187:EL 187=some QB:=rfl
theorem e188:EL 188=some Je:=rfl
theorem ael:EL 189=some FB:=rfl
theorem e190:EL 190=some QA:=rfl
theorem e191:EL 191=some Qz:=rfl
theorem e192:EL 192=some Qy:=rfl
theorem e193:EL 193=some Qx:=rfl
theorem e196:EL 196=some Jd:=rfl
theorem e244:EL 244=some Qn:=rfl
theorem e245:EL 245=some Qm:=rfl
theorem e246:EL 246=some Ql:=rfl
theorem e247:EL 247=some Jc:=rfl
theorem e248:EL 248=some Jb:=rfl
theorem e249:EL 249=some Qk:=rfl
theorem e250:EL 250=some Ja:=rfl
theorem e251:EL 251=some Qj:=rfl
theorem e252:EL 252=some Qi:=rfl
theorem e253:EL 253=some Qh:=rfl
theorem e254:EL 254=some Qg:=rfl
theorem e255:EL 255=some Qf:=rfl
theorem e256:EL 256=some Qe:=rfl
theorem e257:EL 257=some Qd:=rfl
theorem e258:EL 258=some Qc:=rfl
theorem e274:EL 274=some Qb:=rfl
theorem e275:EL 275=some Qa:=rfl
theorem e276:EL 276=some P':=rfl
theorem e277:EL 277=some P9:=rfl
theorem e278:EL 278=some PZ:=rfl
theorem e279:EL 279=some PY:=rfl
theorem e280:EL 280=some PX:=rfl
theorem e281:EL 281=some PW:=rfl
theorem e282:EL 282=some PV:=rfl
theorem e283:EL 283=some PU:=rfl
theorem e284:EL 284=some PT:=rfl
theorem e322:EL 322=some PL:=rfl
theorem e323:EL 323=some PK:=rfl
theorem e324:EL 324=some PJ:=rfl
theorem e325:EL 325=some PI:=rfl
theorem e326:EL 326=some PH:=rfl
theorem e327:EL 327=some PF:=rfl
theorem e328:EL 328=some PE:=rfl
theorem e329:EL 329=some PD:=rfl
theorem e330:EL 330=some PC:=rfl
theorem e331:EL 331=some I9:=rfl
theorem e332:EL 332=some PA:=rfl
theorem e333:EL 333=some Pz:=rfl
theorem e346:EL 346=some Py:=rfl
theorem e347:EL 347=some Px:=rfl
theorem e348:EL 348=some Pw:=rfl
theorem e349:EL 349=some Pv:=rfl
theorem e351:EL 351=some Pu:=rfl
theorem e352:EL 352=some Pt:=rfl
theorem e353:EL 353=some Ps:=rfl
theorem e377:EL 377=some Pn:=rfl
theorem e378:EL 378=some Pm:=rfl
theorem e379:EL 379=some I8:=rfl
theorem e387:EL 387=some Pl:=rfl
theorem e389:EL 389=some Pk:=rfl
theorem e390:EL 390=some Pj:=rfl
theorem e13:EL 13=none:=rfl
theorem e56:EL 56=none:=rfl
theorem e116:EL 116=none:=rfl
theorem e125:EL 125=none:=rfl
theorem aem:EL 164=none:=rfl
theorem e334:EL 334=none:=rfl
theorem e350:EL 350=none:=rfl
end Go.Am.CR
namespace Go.Am
open Go
section
variable{μ:Type}[AMem μ]{P:SZ}{rec:Nat->List AT->μ->Nat->OR μ}
inductive OD(μ:Type) where
 |no
 |ok (k:Nat) (done:List (Nat×Nat×Nat)) (e:List AT) (m:μ) (n r w:Nat)
def mj(b:Nat)(keepV:Bool)(k:Nat)(done:List (Nat×Nat×Nat))(e:List AT)(r w:Nat):OR μ->OD μ
 | .no=>.no
 | .ok v m n r' w'=>cond (apart b r' w' done) (.ok (k+1) ((k,r',w')::done) (cond keepV (v::e) e) m n (OF r r') (OF w w')) .no
def yu(P:SZ)(rec:Nat->List AT->μ->Nat->OR μ):OD μ->AI×Nat->OD μ
 | .no,_=>.no
 | .ok k done e m n r w,(.nop _,_)=>.ok (k+1) done e m n r w
 | .ok k done e m n r w,(.op o,b)=>mj b true k done e r w (iQ P rec e m n o)
 | .ok k done e m n r w,(.eff o,b)=>mj b false k done e r w (iQ P rec e m n o)
 | .ok k done e m n r w,(.opg o gi gw,b)=>cond (ia gw (iA e gi)) (mj b true k done e r w (iQ P rec e m n o)) (.ok (k+1) done (undef::e) m n r w)
 | .ok k done e m n r w,(.effg o gi gw,b)=>cond (ia gw (iA e gi)) (mj b false k done e r w (iQ P rec e m n o)) (.ok (k+1) done e m n r w)
def pB(P:SZ)(rec:Nat->List AT->μ->Nat->OR μ)(l:List (AI×Nat))(s:OD μ):OD μ:=l.foldl (yu P rec) s
def rm:OD μ->CR μ
 | .no=>.no
 | .ok _ _ e m n r w=>.ok .norm e m n r w
def wR:List AI->List Nat->List (AI×Nat)
 |[],_=>[]
 |i::l,bs=>(i,bs.headD 0)::wR l bs.tail
theorem Ih(l:List (AI×Nat)):pB P rec l .no=.no:=by
 induction l with
 |nil=>rfl
 |cons i l ih=>exact ih
theorem z_nil(bs:List Nat):wR [] bs=[]:=rfl
theorem acT(i:AI)(l:List AI)(b:Nat)(bs:List Nat):wR (i::l) (b::bs)=(i,b)::wR l bs:=rfl
variable(k:Nat)(done:List (Nat×Nat×Nat))(e:List AT)(m:μ)(n r w b:Nat)
theorem y_nop(i:Nat):yu P rec (.ok k done e m n r w) (.nop i,b)=.ok (k+1) done e m n r w:=rfl
theorem y_op(o:AOp):yu P rec (.ok k done e m n r w) (.op o,b)=mj b true k done e r w (iQ P rec e m n o):=rfl
theorem y_eff(o:AOp):yu P rec (.ok k done e m n r w) (.eff o,b)=mj b false k done e r w (iQ P rec e m n o):=rfl
theorem y_opg(o:AOp)(gi:Nat)(gw:Bool):yu P rec (.ok k done e m n r w) (.opg o gi gw,b)=cond (ia gw (iA e gi)) (mj b true k done e r w (iQ P rec e m n o)) (.ok (k+1) done (undef::e) m n r w):=rfl
theorem acU(o:AOp)(gi:Nat)(gw:Bool):yu P rec (.ok k done e m n r w) (.effg o gi gw,b)=cond (ia gw (iA e gi)) (mj b false k done e r w (iQ P rec e m n o)) (.ok (k+1) done e m n r w):=rfl
theorem Sx:rm (.ok k done e m n r w)=.ok .norm e m n r w:=rfl
theorem LF(r w:Nat):apart b r w []=true:=rfl
theorem HU(r w i r' w':Nat)(l:List (Nat×Nat×Nat)):apart b r w ((i,r',w')::l)=((Nat.testBit b i || (SF (Un w (OF r' w')) 0&&SF (Un w' r) 0))&&apart b r w l):=rfl
theorem tD(a:Nat):Un 0 a=0:=Nat.zero_and a
theorem tO(a:Nat):Un a 0=0:=Nat.and_zero a
end
section
variable{P:SZ}{E:Nat->Option AFn}{Y:Nat->List AT->FM->Nat->OR FM}{e:List AT}{m:FM}{n:Nat}
end
theorem aai(m:FM)(n:Nat)(B:Blk)(v:Nat->AT):nD m n B v=.ok (v n) (If m n (some B)) (n+1) 0 (bit n):=rfl
theorem Sm(n:Nat):B7 n=.pointer (some ⟨n,0,none⟩):=rfl
theorem RQ(o l c n:Nat):Ah o l c n=.slice (some ⟨n,o,none⟩) l c:=rfl
theorem Lu(l:List AT):(Value.agg l.toArray).cells.toList=l:=rfl
theorem NX(m:FM)(b:Nat)(x y:Option Blk):If (If m b x) b y=If m b y:=by
 funext j
 show(if j=b then y else if j=b then x else m j)=if j=b then y else m j
 by_cases h:j=b<;>simp[h]
theorem eB(m:FM)(b:Nat)(x:Option Blk):(If m b x:FM) b=x:=by show(if b=b then x else m b)=x;simp
theorem en(m:FM)(b j:Nat)(x:Option Blk)(h:j≠b):(If m b x:FM) j=m j:=by show(if j=b then x else m j)=m j;simp[h]
theorem gu{m:FM}{n b:Nat}{x:Option Blk}(h:b≠n:=by omega):(If m n x:FM) b=m b:=en _ _ _ _ h
theorem gJ{m:FM}{n b:Nat}{x y:Option Blk}(h:b≠n)(k:m b=y):(If m n x:FM) b=y:=(en _ _ _ _ h).trans k
theorem GB{n k:Nat}(h:n<=k):SL (bit k) (bit n)=0:=by rw[qD,qD];exact Nat.mod_eq_zero_of_dvd (Nat.pow_dvd_pow 2 h)
section
variable{P:SZ}{E:Nat->Option AFn}{Y:Nat->List AT->FM->Nat->OR FM}{e:List AT}{m:FM}{n:Nat}
end
theorem Lv(n:Nat)(e:List AT)(o:AOp):oG n e o=(eu o).all λx=>iW n (ev e x):=rfl
theorem HF(n:Nat)(k:IntKind)(z:Int):iW n (.int k z)=true:=rfl
theorem Fj(n:Nat)(b:Bool):iW n (.bool b)=true:=rfl
theorem HE(n b o:Nat):iW n (.pointer (some ⟨b,o,none⟩))=Te b n:=rfl
theorem Fi(n:Nat):iW n (.slice none 0 0)=true:=rfl
theorem gI{a b:Nat}(h:a<b):Te a b=true:=UM h
theorem aea{k sz i b o:Nat}(h:i<k):Kv k sz i (.pointer (some ⟨b,o,none⟩))=some (.pointer (some ⟨b,o+i*sz,none⟩)):=by show cond (Te i k) _ none=_;rw[gI h];rfl
theorem Lt(k:IntKind)(z:Int):(Value.int k z).cells.toList=[.int k z]:=rfl
theorem CM(n:Nat):iW n undef=true:=rfl
theorem Fk(n:Nat)(a:Addr):iW n (.pointer (some a))=Te a.block n:=rfl
end Go.Am
