/- The machine and its runs, part 2. -/
import Derived.Test.YtiibhndkoknmnaaGreatDoorB1
set_option linter.unusedVariables false
set_option linter.unusedSimpArgs false
open Nat renaming beq→SF,le_refl→IN,add_assoc→Ux,blt→Te,blt_eq→UI,ble→Tj,le_of_ble_eq_true→Uo,eq_of_beq_eq_true→SG,ble_eq→X6,le_succ→Tf,lt_irrefl→Xw,lt_succ_self→Td,lor→OF
open Go renaming Operand→Uz,Program→SZ,Value→AT,World→SE,Addr→VD
open Bool renaming and_eq_true→No,false_eq_true→WN,or_eq_false_iff→Ya,or_eq_true→Uw
open Go.RowKit.Below renaming refl→S0,heap_alloc→UG
open Go.Sem renaming run_bind→SU,run_pure→Uy
open List renaming getElem?_eq_getElem→SH,length_cons→SA,getElem?_take→UP,getElem?_drop→U',all_eq_true→Tv,getElem?_eq_some_iff→S',append_assoc→S6,getElem?_append_right→UL,getElem?_append_left→TA
open Int renaming natCast_nonneg→WR
open Go.Am.AMem renaming put→If
namespace Go.Am
open Go Go.RowKit
abbrev Ctx:=List (List Nat)
def named(Γ:Ctx)(i t:Nat):Bool:=match Γ[i]? with|some l=>l.any (SF t)|none=>false
def gT(Γ:Ctx):Uz->Opd->Bool
 | .tmp t,.v i=>named Γ i t
 | .const v,.c x=>veq v x&&gy x
 | .func f,.c x=>veq (.func (.func f) #[] #[]) x&&gy x
 |_,_=>false
def my(Γ:Ctx):List Uz->List Opd->Bool
 |[],[]=>true
 |a::asl,b::bs=>gT Γ a b&&my Γ asl bs
 |_,_=>false
def oQ(Γ:Ctx):Option Uz->Option Opd->Bool
 |none,none=>true
 |some a,some b=>gT Γ a b
 |_,_=>false
section
variable(P:SZ)
def pn(t n:Nat):Bool:=match P.info? t with|some i=>i.size==n|none=>false
def xx(t n:Nat):Bool:=match P.info? t with|some i=>i.bytes==n|none=>false
def isZero(t:Nat)(z:List AT):Bool:=match P.info? t with
 |some i=>(match i.zero with|some v=>qU v.cells.toList z&&z.all flat&&z.all one|none=>false)
 |none=>false
def IG(t:Nat)(z:AT):Bool:=match P.info? t with
 |some i=>(match i.zero with|some v=>veq v z&&gy z|none=>false)
 |none=>false
def mB(t:Nat):Option Bool:=match P.underlying t with
 |some (.struct _)=>some true
 |some (.array _ _)=>some true
 |some _=>some false
 |none=>none
def oP(Γ:Ctx)(place:Nat->Option (Nat×Nat)):List (Nat×Uz)->List (Nat×Nat×Opd)->Bool
 |[],[]=>true
 |(i,x)::asl,(off,sz,y)::bs=>(match place i with|some (o,s)=>o==off&&s==sz|none=>false)&&gT Γ x y&&oP Γ place asl bs
 |_,_=>false
def nU(Γ:Ctx):List (Nat×Uz)->List (Nat×Opd)->Bool
 |[],[]=>true
 |(i,x)::asl,(j,y)::bs=>i==j&&gT Γ x y&&nU Γ asl bs
 |_,_=>false
def places(fs:Array Field):List (Nat×Nat):=fs.toList.map λf=>(f.offset,((P.info? f.type).map (·.size)).getD 0)
def jI(Γ:Ctx):Op->AOp->Bool
 | .move x,.mov y | .assign x,.mov y=>gT Γ x y
 | .pick c a b,.pick c' a' b'=>gT Γ c c'&&gT Γ a a'&&gT Γ b b'
 | .binOp op t x y _,.bin op' t' x' y'=>op==op'&&t==t'&&gT Γ x x'&&gT Γ y y'
 | .unOp op _ x,.una op' x'=>op==op'&&gT Γ x x'
 | .convert s d x,.conv k x'=>(P.underlying s).isSome&&(match P.underlying d with|some (.int k')=>k==k'|_=>false)&&gT Γ x x'
 | .fieldAddr t x f,.fld off x'=>(match P.underlying t with|some (.struct fs)=>(match fs[f]? with|some fd=>fd.offset==off&&(match P.info? fd.type with|some i=>i.size != 0|none=>false)|none=>false)|_=>false)&&gT Γ x x'
 | .indexAddr t x i,.idx sz x' i'=>(match P.underlying t with|some (.slice e)=>pn P e sz|_=>false)&&gT Γ x x'&&gT Γ i i'
 | .indexAddr t x i,.ida n sz x' i'=>(match P.underlying t with|some (.array k e)=>k==n&&pn P e sz|_=>false)&&gT Γ x x'&&gT Γ i i'
 | .build t ps,.build z ps'=>isZero P t z&&(match P.underlying t with
   |some (.struct fs)=>fs.toList.all (λf=>(P.info? f.type).isSome)&&oP Γ (λi=>(places P fs)[i]?) ps.toList ps'
   |some (.array _ e)=>(match P.info? e with|some i=>oP Γ (λk=>some (k*i.size,i.size)) ps.toList ps'|none=>false)
   |_=>false)
 | .extract x i,.extr i' x'=>i==i'&&gT Γ x x'
 | .nilCheck x,.nilck x'=>gT Γ x x'
 | .makeFunc (.func f) a c,.func f' a' c'=>f==f'&&my Γ a.toList a'&&my Γ c.toList c'
 | .call ⟨.builtin .len,args,ts⟩,.len s x'=>(match args.toList,ts[0]? with
   |[x],some t=>gT Γ x x'&&(match P.underlying t with|some (.slice _)=>!s|some .string=>s|_=>false)
   |_,_=>false)
 | .call ⟨.builtin .max,args,_⟩,.mx x' y'=>(match args.toList with|[x,y]=>gT Γ x x'&&gT Γ y y'|_=>false)
 | .slice t x lo hi none,.slc sz x' lo' hi'=>(match P.underlying t with|some (.slice e)=>pn P e sz|_=>false)&&gT Γ x x'&&oQ Γ lo lo'&&oQ Γ hi hi'
 | .alloc t,.new z=>isZero P t z
 | .box _ x,.box x'=>gT Γ x x'
 | .buildSlice t len ps,.mkl sz len' z ps'=>len==len'&&len*sz<=16777216&&(match P.underlying t with|some (.slice e)=>pn P e sz&&isZero P e z&&(z.length==sz)&&!(sz==0)|_=>false)&&nU Γ ps.toList ps'
 | .makeSlice t l c,.make sz bytes z l' c'=>(match P.underlying t with|some (.slice e)=>pn P e sz&&xx P e bytes&&isZero P e z&&(z.length==sz)&&!(sz==0)|_=>false)&&gT Γ l l'&&gT Γ c c'
 | .load t x,.ld1 x'=>mB P t==some false&&gT Γ x x'
 | .load t x,.ldn n x'=>mB P t==some true&&pn P t n&&gT Γ x x'
 | .store t x y,.st n x' y'=>pn P t n&&gT Γ x x'&&gT Γ y y'
 | .call ⟨.builtin .append,args,ts⟩,.app sz bytes x' y'=>(match args.toList,ts.toList with
   |[x,y],[t,u]=>gT Γ x x'&&gT Γ y y'&&(match P.underlying t,P.underlying u with
     |some (.slice e),some (.slice _)=>pn P e sz&&xx P e bytes&&(match P.info? e with|some i=>i.zero.isSome|none=>false)&&(match P.info? e with|some i=>(match i.zero with|some z=>z.cells.size==sz|none=>false)|none=>false)
     |_,_=>false)
   |_,_=>false)
 | .call ⟨.value f,args,_⟩,.call g args'=>(match f with | .func f=>f==g|_=>false)&&my Γ args.toList args'
 | .call ⟨.value f,args,_⟩,.callv x args'=>gT Γ f x&&my Γ args.toList args'
 | .index t x i,.pur .byte [x',i']=>(match P.underlying t with|some .string=>true|_=>false)&&gT Γ x x'&&gT Γ i i'
 | .index t x i,.pur (.ind n) [x',i']=>(match P.underlying t with|some (.array k e)=>k==n&&mB P e==some false&&pn P e 1|_=>false)&&gT Γ x x'&&gT Γ i i'
 | .field t x f,.pur (.fld off) [x']=>(match P.underlying t with|some (.struct fs)=>(match fs[f]? with|some fd=>fd.offset==off&&mB P fd.type==some false|none=>false)|_=>false)&&gT Γ x x'
 | .slice t x lo hi none,.pur .sub [x',a',b']=>(match P.underlying t with|some .string=>true|_=>false)&&gT Γ x x'&&oQ Γ lo (some a')&&oQ Γ hi (some b')
 | .slice t x lo hi none,.pur .subl [x',a']=>(match P.underlying t with|some .string=>true|_=>false)&&gT Γ x x'&&oQ Γ lo (some a')&&oQ Γ hi none
 | .slice t x lo hi none,.pur .subh [x',b']=>(match P.underlying t with|some .string=>true|_=>false)&&gT Γ x x'&&oQ Γ lo none&&oQ Γ hi (some b')
 | .binOp op t x y _,.pur (.bit op' t') [x',y']=>op==op'&&t==t'&&gT Γ x x'&&gT Γ y y'
 | .binOp op t x y _,.pur (.isn op' t') [x']=>op==op'&&t==t'&&(match y with | .const .nilIface=>true|_=>false)&&gT Γ x x'
 | .makeMap _ none,.mp .mk []=>true
 | .lookup t x i ok,.mp (.look kt z ok') [x',i']=>ok==ok'&&(match P.underlying t with|some (.map k e)=>k==kt&&IG P e z|_=>false)&&gT Γ x x'&&gT Γ i i'
 | .mapUpdate t x k v,.mp (.upd kt) [x',k',v']=>(match P.underlying t with|some (.map k _)=>k==kt|_=>false)&&gT Γ x x'&&gT Γ k k'&&gT Γ v v'
 | .insert t x k v,.mp (.upd kt) [x',k',v']=>(match P.underlying t with|some (.map k _)=>k==kt|_=>false)&&gT Γ x x'&&gT Γ k k'&&gT Γ v v'
 | .call ⟨.builtin .delete,args,ts⟩,.mp (.del kt) [x',k']=>(match args.toList,ts[0]? with
   |[x,k],some t=>gT Γ x x'&&gT Γ k k'&&(match P.underlying t with|some (.map k _)=>k==kt|_=>false)
   |_,_=>false)
 | .convert s d x,.mp .str [x']=>(match P.underlying s,P.underlying d with|some (.slice e),some .string=>(match P.underlying e with|some (.int .u8)=>true|_=>false)|_,_=>false)&&gT Γ x x'
 | .call ⟨.builtin .min,args,_⟩,.pur .min [x',y']=>(match args.toList with|[x,y]=>gT Γ x x'&&gT Γ y y'|_=>false)
 | .call ⟨.builtin .copy,args,ts⟩,.mp (.cpy sz) [x',y']=>(match args.toList,ts[0]? with
   |[x,y],some t=>gT Γ x x'&&gT Γ y y'&&(match P.underlying t with|some (.slice e)=>pn P e sz|_=>false)
   |_,_=>false)
 | .slice t x none (some hi) (some mx),.mp .slx [x',h',k']=>(match P.underlying t with|some (.slice e)=>(P.info? e).isSome|_=>false)&&gT Γ x x'&&gT Γ hi h'&&gT Γ mx k'
 | .convert s d x,.mp .s2b [x']=>(match P.underlying s,P.underlying d with|some .string,some (.slice e)=>(match P.underlying e with|some (.int .u8)=>true|_=>false)|_,_=>false)&&gT Γ x x'
 | .call ⟨.builtin .len,args,ts⟩,.mp .mln [x']=>(match args.toList,ts[0]? with
   |[x],some t=>gT Γ x x'&&(match P.underlying t with|some (.map _ _)=>true|_=>false)
   |_,_=>false)
 | .slice t x none none none,.pur (.arrs n) [x']=>(match P.underlying t with|some (.array k e)=>k==n&&(P.info? e).isSome|_=>false)&&gT Γ x x'
 | .sliceToArrayPointer t x,.pur (.s2a n) [x']=>(match P.underlying t with|some (.array k _)=>k==n|_=>false)&&gT Γ x x'
 | .load t (.global g),.pur (.gld g' cs) []=>g==g'&&mB P t==some true&&pn P t cs.length&&cs.all flat&&aec.any (λp=>p.1==g&&qU p.2 cs)
 |_,_=>false
end
def gZ(ρ:Ren)(Γ:Ctx)(e:List AT)(tmps:Array AT):Prop:=∀i t,named Γ i t=true->∃x y,e[i]?=some x/\tmps[t]?=some y/\VRel ρ x y
theorem gZ.mono{ρ ρ':Ren}(hl:ρ.le ρ'){Γ:Ctx}{e:List AT}{tmps:Array AT}(h:gZ ρ Γ e tmps):gZ ρ' Γ e tmps:=λi t hn=>let⟨x,y,a,b,c⟩:=h i t hn;⟨x,y,a,b,c.mono hl⟩
theorem gB{ρ:Ren}{Γ:Ctx}{e:List AT}{a:Act}(he:gZ ρ Γ e a.tmps){x:Uz}{y:Opd}(h:gT Γ x y=true):VRel ρ (ev e y) (a.eval x):=by
 unfold gT at h;split at h
 ·rename_i t i;obtain⟨u,v,h1,h2,h3⟩:=he i t h;show VRel ρ (iA e i) (a.tmps.getD t undef);rw[ux,h1,Array.getD_eq_getD_getElem?,h2];exact h3
 ·simp at h;show VRel ρ _ _;rw[FJ h.1];exact kE ρ h.2
 ·simp at h;show VRel ρ _ (.func _ _ _);rw[FJ h.1];exact kE ρ h.2
 ·cases h
theorem nW{ρ:Ren}{Γ:Ctx}{e:List AT}{a:Act}(he:gZ ρ Γ e a.tmps):∀{xs:List Uz} {ys:List Opd},my Γ xs ys=true->gY ρ (evs e ys) (xs.map a.eval)
 |[],[],_=>.nil ρ
 |[],_::_,h=>by cases h
 |_::_,[],h=>by cases h
 |x::xs,y::ys,h=>by simp[my]at h;exact .cons (gB he h.1) (nW he h.2)
theorem kf{P:SZ}{t n:Nat}(h:pn P t n=true):∃i,P.info? t=some i/\i.size=n:=by
 unfold pn at h;split at h
 ·exact⟨_,‹_›,by simpa using h⟩
 ·cases h
theorem wA{P:SZ}{t n:Nat}(h:xx P t n=true):∃i,P.info? t=some i/\i.bytes=n:=by
 unfold xx at h;split at h
 ·exact⟨_,‹_›,by simpa using h⟩
 ·cases h
theorem tX:∀{x y:List AT},qU x y=true->x=y
 |[],[],_=>rfl
 |[],_::_,h=>by simp[qU]at h
 |_::_,[],h=>by simp[qU]at h
 |x::l,y::l',h=>by simp[qU]at h;rw[(BE h.1).1,tX h.2]
theorem qq{P:SZ}{t:Nat}{z:List AT}(h:isZero P t z=true):∃i v,P.info? t=some i/\i.zero=some v/\v.cells.toList=z/\z.all flat=true/\z.all one=true:=by
 unfold isZero at h;split at h
 ·split at h
  ·simp only[No]at h;exact⟨_,_,‹_›,‹_›,tX h.1.1,h.1.2,h.2⟩
  ·cases h
 ·cases h
def NRel(ρ:Ren)(v:AT)(nx:Next):Prop:=(∃v',nx=.value v'/\VRel ρ v v')\/(nx=.skip/\v=undef)
theorem Post.same{μ:Type}[AMem μ]{ρ:Ren}{V:Nat->Option Blk}{w:SE}{B:Nat}(hm:MRel ρ V w B)(n:Nat)(m:μ):Post ρ V w B n m n 0 ρ w:=⟨ρ.le_refl,λ_ _ h=>.inl h,by rw[qW];exact hm,S0 _ _,IN _,λ_ _ _=>rfl,λ_ _ h=>.inl h,λb h=>by simp at h⟩
section
variable{P:SZ}{w:SE}
theorem run_sizeOf{t:Nat}{i:TypeInfo}(h:P.info? t=some i):(sizeOf t).run P w=.ok i.size w:=by simp[sizeOf,typeInfo,h]
theorem kJ{t:Nat}{i:TypeInfo}{v:AT}(h:P.info? t=some i)(hz:i.zero=some v):(zeroValue t).run P w=.ok v w:=by simp[zeroValue,typeInfo,h,hz]
theorem mN{t:Nat}{b:Bool}(h:mB P t=some b):(isAgg t).run P w=.ok b w:=by
 unfold mB at h;split at h
 ·injection h with h;subst h;rename_i hu;simp[isAgg,run_underlying hu]
 ·injection h with h;subst h;rename_i hu;simp[isAgg,run_underlying hu]
 ·injection h with h;subst h;rename_i d h1 h2 hu
  cases d with
  |struct fs=>exact(h1 fs rfl).elim
  |array n e=>exact(h2 n e rfl).elim
  |_=>simp[isAgg,run_underlying hu]
 ·cases h
theorem mh{α:Type}{x:Sem α}{v:α}(h:gM P x=some v):x.run P w=.ok v w:=by
 induction x with
 |pure a=>injection h with h;subst h;rfl
 |program k ih=>exact ih P h
 |_=>cases h
end
section
variable{P:SZ}{w:SE}{ρ:Ren}
theorem kC{op:BinOp}{t:Nat}{x y:Uz}{a b:AT}(h1:∀c d,¬(a=.agg c/\b=.agg d))(h2:a≠.nilIface):(eqGuard op t x y a b).run P w=.ok () w:=by unfold eqGuard;cases op<;>simp<;>split<;>simp_all
theorem wD{op:BinOp}{t:Nat}{x y x' y':Uz}{a b:AT}(h2:a≠.nilIface):eqGuard op t x y a b=eqGuard op t x' y' a b:=by unfold eqGuard;cases a<;>cases b<;>first|rfl|exact absurd rfl h2
theorem Cw(a b:Int):decide (a<=b)=!decide (b<a):=by rw[Bool.eq_iff_iff];simp
theorem GQ{op:BinOp}{k:IntKind}{t:Nat}{a b:Int}{v:AT}(h:j3 op k a b=some v):(binOp op t (.int k a) (.int k b)).run P w=.ok v w/\flat v=true:=by
 cases op<;>simp only[j3]at h
 case add=>injection h with h;subst h;exact⟨by simp[binOp,Op.intArith,jo]<;>rfl,rfl⟩
 case sub=>injection h with h;subst h;exact⟨by simp[binOp,Op.intArith,jo]<;>rfl,rfl⟩
 case mul=>injection h with h;subst h;exact⟨by simp[binOp,Op.intArith,jo]<;>rfl,rfl⟩
 case quo=>
  rw[rI]at h;by_cases hb:b=0
  ·simp[hb]at h
  ·simp[hb]at h;subst h;exact⟨by simp[binOp,Op.intDiv,hb,jo],rfl⟩
 case rem=>
  rw[rI]at h;by_cases hb:b=0
  ·simp[hb]at h
  ·simp[hb]at h;subst h;exact⟨by simp[binOp,Op.intDiv,hb],rfl⟩
 case and=>cases h
 case or=>cases h
 case xor=>cases h
 case shl=>cases h
 case shr=>cases h
 case andNot=>cases h
 case eql=>injection h with h;subst h;exact⟨by simp[binOp,Op.intCmp,rI];by_cases e:a=b<;>simp[e],rfl⟩
 case neq=>injection h with h;subst h;exact⟨by simp[binOp,Op.intCmp,rI];by_cases e:a=b<;>simp[e],rfl⟩
 case lss=>injection h with h;subst h;exact⟨by simp[binOp,Op.intCmp,lY],rfl⟩
 case leq=>injection h with h;subst h;exact⟨by simp[binOp,Op.intCmp,lY,Cw],rfl⟩
 case gtr=>injection h with h;subst h;exact⟨by simp[binOp,Op.intCmp,lY],rfl⟩
 case geq=>injection h with h;subst h;exact⟨by simp[binOp,Op.intCmp,lY,Cw],rfl⟩
theorem qh{op:BinOp}{b:Bool}{v:AT}(h:mQ op b=some v):(op=.eql/\v=.bool b)\/(op=.neq/\v=.bool (!b)):=by
 cases op<;>simp[mQ]at h
 ·exact .inl ⟨rfl,h.symm⟩
 ·exact .inr ⟨rfl,h.symm⟩
theorem wh{t e:Nat}(ht:P.underlying t=some (.slice e))(a:Option VD)(n c:Nat):(Op.equal t (.slice a n c) (.slice none 0 0)).run P w=.ok a.isNone w:=by obtain⟨d,hd⟩:∃d,Op.maxDepth=d+1:=⟨9999,rfl⟩;rw[Op.equal,hd];cases a<;>simp[Op.equalIn,run_underlying ht]
theorem AH{t e:Nat}(ht:P.underlying t=some (.pointer e))(a:Option VD):(Op.equal t (.pointer a) (.pointer none)).run P w=.ok a.isNone w:=by obtain⟨d,hd⟩:∃d,Op.maxDepth=d+1:=⟨9999,rfl⟩;rw[Op.equal,hd];cases a<;>simp[Op.equalIn,run_underlying ht]
theorem AJ{t k e:Nat}(ht:P.underlying t=some (.map k e))(a:Option Nat):(Op.equal t (.map a) (.map none)).run P w=.ok a.isNone w:=by obtain⟨d,hd⟩:∃d,Op.maxDepth=d+1:=⟨9999,rfl⟩;rw[Op.equal,hd];cases a<;>simp[Op.equalIn,run_underlying ht]
theorem Ee{t:Nat}(h:vI P t=true):∃k e,P.underlying t=some (.map k e):=by
 unfold vI at h;split at h
 ·exact⟨_,_,‹_›⟩
 ·cases h
theorem Al{t:Nat}(h:mA P t=true):∃e,P.underlying t=some (.slice e):=by
 unfold mA at h;split at h
 ·exact⟨_,‹_›⟩
 ·cases h
theorem Ed{t:Nat}(h:lK P t=true):∃e,P.underlying t=some (.pointer e):=by
 unfold lK at h;split at h
 ·exact⟨_,‹_›⟩
 ·cases h
theorem HC{op:BinOp}{t:Nat}{x y x' y' v:AT}(hx:VRel ρ x x')(hy:VRel ρ y y')(h:nk P op t x y=some v)(xo yo:Uz):
  ∃v',(do eqGuard op t xo yo x' y';binOp op t x' y':Sem AT).run P w=.ok v' w/\VRel ρ v v':=by
 unfold nk at h;split at h
 ·rename_i k a k' b;have e1:=hx.gQ rfl;have e2:=hy.gQ rfl;subst e1 e2;by_cases hk:k=k'
  ·subst hk;simp at h;obtain⟨h1,h2⟩:=GQ (P:=P) (w:=w) (t:=t) h;refine⟨v,?_,.flat h2⟩;rw[SU,kC (by intro c d h;exact absurd h.1 (by simp)) (by simp)];exact h1
  ·simp[hk]at h
 ·rename_i a n c;have e2:=hy.gQ rfl;subst e2;cases ht:mA P t
  ·simp[ht]at h
  ·simp[ht]at h;obtain⟨el,ht⟩:=Al ht
   have hx2:∃a' n' c',x'=.slice a' n' c'/\a'.isNone=a.isNone:=by
    cases hx with
    |flat h=>exact⟨_,_,_,rfl,rfl⟩
    |slice _ _ _ _ _=>exact⟨_,_,_,rfl,rfl⟩
    |vag=>exact⟨_,_,_,rfl,rfl⟩
   obtain⟨a',n',c',rfl,e⟩:=hx2;rcases qh h with⟨rfl,rfl⟩|⟨rfl,rfl⟩
   ·refine⟨.bool a'.isNone,?_,by rw[e];exact .bool ρ _⟩;rw[SU,kC (by intro c d h;exact absurd h.1 (by simp)) (by simp)];simp only[Result.andThen_ok,binOp,SU,wh ht];rfl
   ·refine⟨.bool (!a'.isNone),?_,by rw[e];exact .bool ρ _⟩;rw[SU,kC (by intro c d h;exact absurd h.1 (by simp)) (by simp)];simp only[Result.andThen_ok,binOp,SU,wh ht];rfl
 ·rename_i a;have e2:=hy.gQ rfl;subst e2;cases ht:lK P t
  ·simp[ht]at h
  ·simp[ht]at h;obtain⟨el,ht⟩:=Ed ht
   have hx2:∃a',x'=.pointer a'/\a'.isNone=a.isNone:=by
    cases hx with
    |flat h=>exact⟨_,rfl,rfl⟩
    |ptr _=>exact⟨_,rfl,rfl⟩
   obtain⟨a',rfl,e⟩:=hx2;rcases qh h with⟨rfl,rfl⟩|⟨rfl,rfl⟩
   ·refine⟨.bool a'.isNone,?_,by rw[e];exact .bool ρ _⟩;rw[SU,kC (by intro c d h;exact absurd h.1 (by simp)) (by simp)];simp only[Result.andThen_ok,binOp,SU,AH ht];rfl
   ·refine⟨.bool (!a'.isNone),?_,by rw[e];exact .bool ρ _⟩;rw[SU,kC (by intro c d h;exact absurd h.1 (by simp)) (by simp)];simp only[Result.andThen_ok,binOp,SU,AH ht];rfl
 ·rename_i a;have e2:=hy.gQ rfl;subst e2;cases ht:vI P t
  ·simp[ht]at h
  ·simp[ht]at h;obtain⟨kk,el,ht⟩:=Ee ht
   have hx2:∃a',x'=.map a'/\a'.isNone=a.isNone:=by
    cases hx with
    |flat h=>exact⟨_,rfl,rfl⟩
    |map _=>exact⟨_,rfl,rfl⟩
   obtain⟨a',rfl,e⟩:=hx2;rcases qh h with⟨rfl,rfl⟩|⟨rfl,rfl⟩
   ·refine⟨.bool a'.isNone,?_,by rw[e];exact .bool ρ _⟩;rw[SU,kC (by intro c d h;exact absurd h.1 (by simp)) (by simp)];simp only[Result.andThen_ok,binOp,SU,AJ ht];rfl
   ·refine⟨.bool (!a'.isNone),?_,by rw[e];exact .bool ρ _⟩;rw[SU,kC (by intro c d h;exact absurd h.1 (by simp)) (by simp)];simp only[Result.andThen_ok,binOp,SU,AJ ht];rfl
 ·cases hc:(gy x&&gy y&&uv x)
  ·simp[hc]at h
  ·simp only[hc,cond_true]at h;simp only[No]at hc;have e1:=hx.qy hc.1.1;have e2:=hy.qy hc.1.2;subst e1 e2;unfold oX at h;split at h
   ·rename_i v' hv;cases hf:flat v'
    ·simp[hf]at h
    ·simp[hf]at h;subst h;refine⟨v',?_,.flat hf⟩;have hn:x'≠.nilIface:=by intro e;subst e;simp[uv]at hc
     rw[wD (x':=.tmp 0) (y':=.tmp 0) hn];exact mh hv
   ·cases h
theorem FL{op:UnOp}{x x' v:AT}(hx:VRel ρ x x')(h:FN op x=some v):∃v',(Op.unary op x').run P w=.ok v' w/\VRel ρ v v':=by
 unfold FN at h;split at h
 ·injection h with h;subst h;have e:=hx.gQ rfl;subst e;exact⟨_,by simp[Op.unary]<;>rfl,.bool ρ _⟩
 ·injection h with h;subst h;have e:=hx.gQ rfl;subst e;rename_i k n;exact⟨.int k (k.wrap (-n)),by simp[Op.unary,Op.intArith],by rw[jo,show Int.sub 0 n=-n from Int.zero_sub n];exact .int ρ _ _⟩
 ·injection h with h;subst h;have e:=hx.gQ rfl;subst e;rename_i k n;exact⟨.int k (notI k n),rfl,.int ρ _ _⟩
 ·cases h
theorem EM{k:IntKind}{s d:Nat}{x x' v:AT}(hs:(P.underlying s).isSome=true)(hd:P.underlying d=some (.int k))(hx:VRel ρ x x')(h:pP k x=some v):
  ∃v',(convert s d x').run P w=.ok v' w/\VRel ρ v v':=by
 unfold pP at h;split at h
 ·injection h with h;subst h;have e:=hx.gQ rfl;subst e
  obtain⟨u,hu⟩:=Option.isSome_iff_exists.1 hs;exact⟨_,by simp[convert,run_underlying hu,run_underlying hd,Conv.intToInt]<;>rfl,by rw[jo];exact .int ρ _ _⟩
 ·cases h
theorem addr_add(b o n:Nat):(⟨b,o,none⟩:VD).add n=⟨b,o+n,none⟩:=by unfold Addr.add;split<;>simp_all
theorem G5{off s f:Nat}{fs:Array Field}{fd:Field}{i:TypeInfo}{x x' v:AT}(hs:P.underlying s=some (.struct fs))(hf:fs[f]?=some fd)(ho:fd.offset=off)
  (hi:P.info? fd.type=some i) (hz:i.size≠0) (hx:VRel ρ x x') (h:KF off x=some v):∃v',(Instr.fieldAt s x' f).run P w=.ok v' w/\VRel ρ v v':=by
 unfold KF at h;split at h
 ·rename_i b o;injection h with h;subst h
  cases hx with
  |flat h=>simp[flat]at h
  |ptr hp=>rename_i p;refine⟨.pointer (some ⟨p.blk,p.base+(o+off),none⟩),?_,.ptr hp⟩;simp[Instr.fieldAt,run_underlying hs,hf,Instr.sureAddr,fieldPlace,run_sizeOf hi,hz,addr_add,ho,Ux]
 ·cases h
theorem kX{x x':AT}{i:Nat}(hx:VRel ρ x x')(h:iB x=some i):∃k,x'=.int k (Int.ofNat i):=by
 unfold iB at h;split at h
 ·injection h with h;subst h;exact⟨_,hx.gQ rfl⟩
 ·cases h
theorem GV{t e sz i:Nat}{ti:TypeInfo}{k:IntKind}{x x' v:AT}(ht:P.underlying t=some (.slice e))(hi:P.info? e=some ti)(hz:ti.size=sz)(hx:VRel ρ x x')
  (h:vJ sz i x=some v):∃v',(Instr.indexAt t x' (.int k (Int.ofNat i))).run P w=.ok v' w/\VRel ρ v v':=by
 unfold vJ at h;split at h
 ·rename_i b o len c;cases hl:Te i len
  ·simp[hl]at h
  ·simp only[hl,cond_true]at h;injection h with h;subst h
   have hl:i<len:=by simpa[UI]using hl
   cases hx with
   |flat h=>simp[flat]at h
   |vag=>omega
   |slice hp h1 h2 h3 h4=>rename_i c' p;refine⟨.pointer (some ⟨p.blk,p.base+(o+i*sz),none⟩),?_,.ptr hp⟩;simp[Instr.indexAt,asIntOf,run_underlying ht,run_sizeOf hi,hz,addr_add,hl,Ux]
 ·cases h
theorem GW{t e n sz i:Nat}{ti:TypeInfo}{k:IntKind}{x x' v:AT}(ht:P.underlying t=some (.array n e))(hi:P.info? e=some ti)(hz:ti.size=sz)(hx:VRel ρ x x')
  (h:Kv n sz i x=some v):∃v',(Instr.indexAt t x' (.int k (Int.ofNat i))).run P w=.ok v' w/\VRel ρ v v':=by
 unfold Kv at h;split at h
 ·rename_i b o;cases hl:Te i n
  ·simp[hl]at h
  ·simp only[hl,cond_true]at h;injection h with h;subst h
   have hl:i<n:=by simpa[UI]using hl
   cases hx with
   |flat h=>simp[flat]at h
   |ptr hp=>rename_i p;refine⟨.pointer (some ⟨p.blk,p.base+(o+i*sz),none⟩),?_,.ptr hp⟩;simp[Instr.indexAt,asIntOf,run_underlying ht,run_sizeOf hi,hz,addr_add,hl,Ux,Instr.sureAddr]
 ·cases h
theorem Hp{t i:Nat}{k:IntKind}{x x' v:AT}(ht:(match P.underlying t with|some .string=>true|_=>false)=true)(hx:VRel ρ x x')
  (h:Hq i x=some v):∃v',(Instr.index t x' (.int k (Int.ofNat i))).run P w=.ok v' w/\VRel ρ v v':=by
 unfold Hq at h;split at h
 ·rename_i s;have e1:=hx.gQ rfl;subst e1;unfold IY at h;split at h
  ·rename_i b hb;injection h with h;subst h
   have hs:s[i]?=some b:=by
    have h1:i<s.data.toList.length:=by
     rcases Nat.lt_or_ge i s.data.toList.length with h|h
     ·exact h
     ·rw[List.getElem?_eq_none h]at hb;cases hb
    rw[SH h1]at hb;injection hb with hb;subst hb
    have h2:i<s.size:=h1;rw[getElem?_pos s i h2];rfl
   have hu:P.underlying t=some .string:=by
    split at ht
    ·assumption
    ·cases ht
   refine⟨.int .u8 (Int.ofNat b.toNat),?_,.int ρ _ _⟩;have e2:(if 0<=Int.ofNat i then s[(Int.ofNat i).toNat]? else none)=some b:=by have h0:(0:Int)<=Int.ofNat i:=WR i;rw[if_pos h0];exact hs
   unfold Instr.index;simp only[asIntOf,SU,Uy,Result.andThen_ok,run_underlying hu,e2];rfl
  ·cases h
 ·cases h
theorem GR{t i n:Nat}{k:IntKind}{x x' v:AT}(ht:(match P.underlying t with|some (.array k e)=>k==n&&mB P e==some false&&pn P e 1|_=>false)=true)(hx:VRel ρ x x')
  (h:GU n i x=some v):∃v',(Instr.index t x' (.int k (Int.ofNat i))).run P w=.ok v' w/\VRel ρ v v':=by
 unfold GU at h;split at h
 ·rename_i cs;cases hl:Te i n
  ·simp[hl]at h
  simp only[hl,cond_true]at h;have hl:i<n:=by simpa[UI]using hl
  rw[kD]at h
  cases hx with
  |flat h=>simp[flat]at h
  |agg h1 h2=>
   rename_i cs';obtain⟨y,hy,hr⟩:=(gY.of_array h1 h2).get h;split at ht
   ·rename_i k' e hu;simp only[No,beq_iff_eq]at ht;obtain⟨⟨rfl,hagg⟩,hsz⟩:=ht;obtain⟨ti,hti,hts⟩:=kf hsz;refine⟨y,?_,hr⟩;have e2:(0:Int)<=Int.ofNat i/\Int.ofNat i<(k':Int):=⟨WR i,Int.ofNat_lt.2 hl⟩;have e3:cs'[(Int.ofNat i).toNat*1]?=some y:=by rw[Nat.mul_one];simpa using hy
    unfold Instr.index;simp only[asIntOf,SU,Uy,Result.andThen_ok,run_underlying hu,if_pos e2,run_sizeOf hti,hts,part,mN hagg,e3];rfl
   ·cases ht
 ·cases h
theorem G6{t f off:Nat}{x x' v:AT}(ht:(match P.underlying t with|some (.struct fs)=>(match fs[f]? with|some fd=>fd.offset==off&&mB P fd.type==some false|none=>false)|_=>false)=true)(hx:VRel ρ x x')
  (h:KH off x=some v):∃v',(Instr.field t x' f).run P w=.ok v' w/\VRel ρ v v':=by
 unfold KH at h;split at h
 ·rename_i cs;rw[kD]at h
  cases hx with
  |flat h=>simp[flat]at h
  |agg h1 h2=>
   rename_i cs';obtain⟨y,hy,hr⟩:=(gY.of_array h1 h2).get h;split at ht
   ·rename_i fs hu;split at ht
    ·rename_i fd hfd;simp only[No,beq_iff_eq]at ht;obtain⟨rfl,hagg⟩:=ht;exact⟨y,by simp[Instr.field,run_underlying hu,hfd,asAgg,part,mN hagg,(by simpa using hy:cs'[fd.offset]?=some y)],hr⟩
    ·cases ht
   ·cases ht
 ·cases h
theorem FT{t a b:Nat}{s:ByteArray}{v:AT}{lo hi:Option AT}(hu:P.underlying t=some .string)(h:adr s a b=some v)
  (hlo:(lo=none/\a=0)\/∃k,lo=some (.int k (Int.ofNat a))) (hhi:(hi=none/\b=s.size)\/∃k,hi=some (.int k (Int.ofNat b))):
  (Instr.slice t (.string s) lo hi none).run P w=.ok v w/\flat v=true:=by
 unfold adr at h;cases hab:Tj a b&&Tj b s.size
 ·rw[hab]at h;cases h
 rw[hab]at h;simp only[No]at hab;have h1:=Uo hab.1;have h2:=Uo hab.2;injection h with h;subst h
 refine⟨?_,rfl⟩;have c0:∀(k:IntKind) (c d:Nat) (e:BoundsCode),c<=d->(Instr.sliceBound (.int k (Int.ofNat c)) d e).run P w=.ok c w:=by intro k c d e hcd;have:(0:Int)<=Int.ofNat c/\Int.ofNat c<=(d:Int):=⟨WR c,Int.ofNat_le.2 hcd⟩;unfold Instr.sliceBound;simp only[asIntOf,SU,Uy,Result.andThen_ok,if_pos this];rfl
 rcases hlo with⟨rfl,rfl⟩|⟨k,rfl⟩<;>rcases hhi with⟨rfl,rfl⟩|⟨k',rfl⟩
 ·simp[Instr.slice,run_underlying hu,Instr.sliceBounds]
 ·have:=c0 k' b s.size .sliceAlen h2;simp only[Instr.slice,Instr.sliceBounds,SU,Uy,Result.andThen_ok,run_underlying hu,Option.isSome_none,this,WN,if_false]
 ·have:=c0 k a s.size .sliceB h1;simp only[Instr.slice,Instr.sliceBounds,SU,Uy,Result.andThen_ok,run_underlying hu,Option.isSome_none,this,WN,if_false]
 ·have e1:=c0 k' b s.size .sliceAlen h2;have e2:=c0 k a b .sliceB h1;simp only[Instr.slice,Instr.sliceBounds,SU,Uy,Result.andThen_ok,run_underlying hu,Option.isSome_none,e1,e2,WN,if_false]
theorem HB{op:BinOp}{t:Nat}{x y x' y' v:AT}(hx:VRel ρ x x')(hy:VRel ρ y y')(h:vQ P op t x y=some v)(xo yo:Uz):
  ∃v',(do eqGuard op t xo yo x' y';binOp op t x' y':Sem AT).run P w=.ok v' w/\VRel ρ v v':=by
 unfold vQ at h;split at h
 ·rename_i k a k' b;have e1:=hx.gQ rfl;have e2:=hy.gQ rfl;subst e1 e2;unfold oX at h;split at h
  ·rename_i u hu;cases hf:flat u
   ·rw[hf]at h;cases h
   rw[hf]at h;injection h with h;subst h
   rw[wD (x':=.tmp 0) (y':=.tmp 0) (by simp)];exact⟨u,mh hu,.flat hf⟩
  ·cases h
 ·cases h
theorem Ep{i:Nat}{x x' v:AT}(hx:VRel ρ x x')(h:Bh i x=some v):∃v',(Instr.extract x' i).run P w=.ok v' w/\VRel ρ v v':=by
 unfold Bh at h;split at h
 ·rename_i vs;rw[kD]at h
  cases hx with
  |flat h=>simp[flat]at h
  |tuple h1 h2=>rename_i vs';obtain⟨y,hy,hr⟩:=(gY.of_array h1 h2).get h;exact⟨y,by simp[Instr.extract,(by simpa using hy:vs'[i]?=some y)],hr⟩
 ·cases h
theorem Ce{x x' v:AT}(hx:VRel ρ x x')(h:vD x=some v):∃a,x'=.pointer (some a)/\VRel ρ v x':=by
 unfold vD at h;split at h
 ·injection h with h;subst h
  cases hx with
  |flat h=>simp[flat]at h
  |ptr hp=>exact⟨_,rfl,.ptr hp⟩
 ·cases h
theorem Kf{x y x' y' v:AT}(ts:Array TypeId)(ty:Nat)(hx:VRel ρ x x')(hy:VRel ρ y y')(h:mxV x y=some v):∃v',(Builtin.max_ ts ty #[x',y']).run P w=.ok v' w/\VRel ρ v v':=by
 unfold mxV at h;split at h
 ·injection h with h;subst h
  have e1:=hx.gQ rfl;have e2:=hy.gQ rfl;subst e1 e2;rename_i k a k' b;refine⟨.int k (if b > a then b else a),by simp[Builtin.max_,Builtin.max2,List.foldlM],?_⟩;rw[lY];by_cases hab:a<b<;>simp[hab]<;>exact .int ρ _ _
 ·cases h
theorem Kh{x y x' y' v:AT}(ts:Array TypeId)(ty:Nat)(hx:VRel ρ x x')(hy:VRel ρ y y')(h:mnV x y=some v):∃v',(Builtin.min_ ts ty #[x',y']).run P w=.ok v' w/\VRel ρ v v':=by
 unfold mnV at h;split at h
 ·injection h with h;subst h
  have e1:=hx.gQ rfl;have e2:=hy.gQ rfl;subst e1 e2;rename_i k a k' b;refine⟨.int k (if b<a then b else a),by simp[Builtin.min_,Builtin.min2,List.foldlM],?_⟩;rw[lY];by_cases hab:b<a<;>simp[hab]<;>exact .int ρ _ _
 ·cases h
theorem GP{op:BinOp}{t:Nat}{x x' v:AT}(hx:VRel ρ x x')(h:aaN P op t x=some v)(xo:Uz):
  ∃v',(do eqGuard op t xo (.const .nilIface) x' .nilIface;binOp op t x' .nilIface:Sem AT).run P w=.ok v' w/\VRel ρ v v':=by
 unfold aaN at h;split at h
 ·have e1:=hx.gQ rfl;subst e1;unfold oX at h;split at h
  ·rename_i v' hv;cases hf:flat v'
   ·simp[hf]at h
   ·simp[hf]at h;subst h;refine⟨v',?_,.flat hf⟩;have hg:(eqGuard op t xo (.const .nilIface) .nilIface .nilIface).run P w=.ok () w:=by unfold eqGuard;cases op<;>simp
    rw[SU,hg];exact mh hv
  ·cases h
 ·have hx2:∃t' y,x'=.iface t' y:=by
   cases hx with
   |flat h=>simp[flat]at h
   |opq=>exact⟨_,_,rfl⟩
  obtain⟨t',y,rfl⟩:=hx2;split at h
  ·rename_i ms hu;injection h with h;subst h
   refine⟨.bool false,?_,.flat rfl⟩;show((eqGuard .eql t xo (.const .nilIface) (.iface t' y) .nilIface) >>= λ_=>(do pure (.bool (<-Op.equal t (.iface t' y) .nilIface)):Sem AT)).run P w=_;rw[SU,show(eqGuard .eql t xo (.const .nilIface) (.iface t' y) .nilIface).run P w=.ok () w by unfold eqGuard;simp];show((underlying t >>= _) >>= _:Sem AT).run P w=_;simp[SU,run_underlying hu]
  ·rename_i ms hu;injection h with h;subst h
   refine⟨.bool true,?_,.flat rfl⟩;show((eqGuard .neq t xo (.const .nilIface) (.iface t' y) .nilIface) >>= λ_=>(do pure (.bool (!(<-Op.equal t (.iface t' y) .nilIface))):Sem AT)).run P w=_;rw[SU,show(eqGuard .neq t xo (.const .nilIface) (.iface t' y) .nilIface).run P w=.ok () w by unfold eqGuard;simp];show((underlying t >>= _) >>= _:Sem AT).run P w=_;simp[SU,run_underlying hu]
  ·cases h
 ·cases h
theorem HN{n t e:Nat}{i:TypeInfo}{x x' v:AT}(ht:P.underlying t=some (.array n e))(hi:P.info? e=some i)(hx:VRel ρ x x')(h:abG n x=some v):∃v',(Instr.sliceAt t x' none none none).run P w=.ok v' w/\VRel ρ v v':=by
 unfold abG at h;split at h
 ·rename_i b o;cases hn:Te n UNK
  ·rw[hn]at h;cases h
  ·rw[hn,cond_true]at h;injection h with h;subst h
   have hn:=Uo hn
   cases hx with
   |flat hf=>simp[flat]at hf
   |ptr hp=>rename_i p;refine⟨.slice (some ⟨p.blk,p.base+o,none⟩) n n,?_,.slice hp (IN _) (λh=>by omega) (λ_=>rfl) (λh=>by unfold VAG at h;unfold UNK at hn;omega)⟩;simp[Instr.sliceAt,Instr.sliceBounds,run_underlying ht,run_sizeOf hi,Instr.sureAddr,addr_add]
 ·cases h
theorem Gb{n t e:Nat}{x x' v:AT}(ht:P.underlying t=some (.array n e))(hx:VRel ρ x x')(h:RY n x=some v):∃v',(Instr.arrayAt t x').run P w=.ok v' w/\VRel ρ v v':=by
 unfold RY at h;split at h
 ·rename_i b o len c;cases hl:(Tj n len&&Te 0 n)
  ·rw[hl]at h;cases h
  ·rw[hl,cond_true]at h;injection h with h;subst h
   rw[No]at hl;have h1:=Uo hl.1;have h2:0<n:=Uo hl.2
   cases hx with
   |flat h=>simp[flat]at h
   |vag=>omega
   |slice hp g1 g2 g3 g4=>rename_i c' p;refine⟨.pointer (some ⟨p.blk,p.base+o,none⟩),?_,.ptr hp⟩;simp[Instr.arrayAt,run_underlying ht,Nat.not_lt.2 h1]
 ·cases h
end
theorem IL(off:Nat):∀(l:List AT) (i:Nat) (A:Array AT),off+i+l.length<=A.size->
  ((l.zipIdx i).foldl (λcs (x:AT×Nat)=>cs.setIfInBounds (off+x.2) x.1) A).toList=A.toList.take (off+i)++l++A.toList.drop (off+i+l.length)
 |[],i,A,_=>by simp
 |v::l,i,A,h=>by
  simp only[SA]at h;rw[List.zipIdx_cons,List.foldl_cons,IL off l (i+1) _ (by simp;omega)];simp only[Array.toList_setIfInBounds,SA];have e1:off+(i+1)=off+i+1:=by omega
  have e2:off+i+1+l.length=off+i+(l.length+1):=by omega
  have hlt:off+i<A.toList.length:=by simp;omega
  rw[e1,e2,List.drop_set_of_lt (by omega)];have:List.take (off+i+1) (A.toList.set (off+i) v)=List.take (off+i) A.toList++[v]:=by rw[List.take_add_one,List.take_set_of_le (IN _),List.getElem?_set_self hlt];rfl
  rw[this];simp
theorem qz{ρ:Ren}{place:Nat->Option (Nat×Nat)}:∀(ps:List (Nat×Nat×AT)) (qs:List (Nat×AT)) (c d:List AT) (c':Array AT),
  ps.length=qs.length->(∀(k:Nat) p q,ps[k]?=some p->qs[k]?=some q->place q.1=some (p.1,p.2.1)/\VRel ρ p.2.2 q.2)->gY ρ c c'.toList->ou ps c=some d->
  ∃d',Instr.fill place c' qs=some d'/\gY ρ d d'.toList
 |[],[],c,d,c',_,_,hc,h=>by
  have h:some c=some d:=h;injection h with h;subst h
  exact⟨c',rfl,hc⟩
 |[],_::_,_,_,_,h,_,_,_=>by simp at h
 |_::_,[],_,_,_,h,_,_,_=>by simp at h
 |(off,sz,v)::ps,(i,v')::qs,c,d,c',hl,hr,hc,h=>by
  have h:cond (SF (kO v.cells.toList) sz) (Option.rec (motive:=λ_=>Option (List AT)) none (ou ps) (setCells c off v.cells.toList)) none=some d:=h;obtain⟨hp,hv⟩:=hr 0 _ _ rfl rfl;cases hb:SF (kO v.cells.toList) sz
  ·simp[hb]at h
  ·rw[hb,cond_true]at h;have hb:v.cells.toList.length=sz:=by rw[<-xw];exact SG hb
   cases hs:setCells c off v.cells.toList with
   |none=>rw[hs]at h;cases h
   |some c1=>
    rw[hs]at h;have h:ou ps c1=some d:=h;have hcl:=hv.cells;have hsz:v'.cells.size=sz:=by have:=hcl.1;simp at this hb;omega
    rw[setCells_eq]at hs;split at hs
    ·rename_i hle;injection hs with hs
     have hcs:c'.size=c.length:=by have:=hc.1;simpa using this.symm
     have hle':off+v'.cells.size<=c'.size:=by simp at hb hle;omega
     have hfs:=IL off v'.cells.toList 0 c' (by simpa using hle');have ih:=qz (ρ:=ρ) (place:=place) ps qs c1 d ((v'.cells.zipIdx).foldl (λcs x=>cs.setIfInBounds (off+x.2) x.1) c') (by simpa using hl)
      (λk p q hp hq=>hr (k+1) p q (by simpa using hp) (by simpa using hq))
      (by
       have e:((v'.cells.zipIdx).foldl (λcs x=>cs.setIfInBounds (off+x.2) x.1) c').toList=c'.toList.take off++v'.cells.toList++c'.toList.drop (off+v'.cells.toList.length):=by rw[<-Array.foldl_toList,Array.toList_zipIdx];simpa using hfs
       rw[e,<-hs];have hl2:v.cells.toList.length=v'.cells.toList.length:=hcl.1;refine .append (.append ⟨by simp;omega,λj x y hx hy=>?_⟩ hcl) ⟨by simp at hl2 ⊢;omega,λj x y hx hy=>?_⟩
       ·rw[UP]at hx hy;split at hx
        ·rw[if_pos ‹_›]at hy;exact hc.2 j x y hx hy
        ·cases hx
       ·rw[U']at hx hy;rw[<-hl2]at hy
        exact hc.2 _ x y hx hy) h
     obtain⟨d',h1,h2⟩:=ih;refine⟨d',?_,h2⟩;unfold Instr.fill;simp only[hp];rw[if_neg (by simp[hsz];omega)];exact h1
    ·cases hs
section
variable{P:SZ}{ρ:Ren}{Γ:Ctx}{e:List AT}{a:Act}
theorem ph(he:gZ ρ Γ e a.tmps){place:Nat->Option (Nat×Nat)}:∀{asl:List (Nat×Uz)} {bs:List (Nat×Nat×Opd)},oP Γ place asl bs=true->
  (pj e bs).length=(asl.map λp=>(p.1,a.eval p.2)).length/\
  ∀(k:Nat) p q,(pj e bs)[k]?=some p->(asl.map λp=>(p.1,a.eval p.2))[k]?=some q->place q.1=some (p.1,p.2.1)/\VRel ρ p.2.2 q.2
 |[],[],_=>⟨rfl,λk p q h=>by simp[pj]at h⟩
 |[],_::_,h=>by cases h
 |_::_,[],h=>by cases h
 |(i,x)::asl,(off,sz,y)::bs,h=>by
  simp only[oP,No]at h;obtain⟨⟨h1,h2⟩,h3⟩:=h;have ih:=ph he h3;refine⟨by show(pj e bs).length+1=_;rw[ih.1];rfl,λk p q hp hq=>?_⟩
  cases k with
  |zero=>
   have hp:some (off,sz,ev e y)=some p:=hp;have hq:some (i,a.eval x)=some q:=hq;injection hp with hp;injection hq with hq;subst hp hq
   split at h1
   ·simp at h1;rename_i hpl;refine⟨?_,gB he h2⟩;rw[hpl,h1.1,h1.2]
   ·cases h1
  |succ k=>exact ih.2 k p q hp hq
theorem rk(he:gZ ρ Γ e a.tmps)(sz:Nat):∀{asl:List (Nat×Uz)} {bs:List (Nat×Opd)},nU Γ asl bs=true->
  (mO sz e bs).length=(asl.map λp=>(p.1,a.eval p.2)).length/\
  ∀(k:Nat) p q,(mO sz e bs)[k]?=some p->(asl.map λp=>(p.1,a.eval p.2))[k]?=some q->(λi=>some (i*sz,sz)) q.1=some (p.1,p.2.1)/\VRel ρ p.2.2 q.2
 |[],[],_=>⟨rfl,λk p q h=>by simp[mO]at h⟩
 |[],_::_,h=>by cases h
 |_::_,[],h=>by cases h
 |(i,x)::asl,(j,y)::bs,h=>by
  simp only[nU,No]at h;obtain⟨⟨h1,h2⟩,h3⟩:=h;have h1:i=j:=by simpa using h1
  subst h1;have ih:=rk he sz h3;refine⟨by show(mO sz e bs).length+1=_;rw[ih.1];rfl,λk p q hp hq=>?_⟩
  cases k with
  |zero=>
   have hp:some (i*sz,sz,ev e y)=some p:=hp;have hq:some (i,a.eval x)=some q:=hq;injection hp with hp;injection hq with hq;subst hp hq
   exact⟨rfl,gB he h2⟩
  |succ k=>exact ih.2 k p q hp hq
end
theorem pK(ρ:Ren){z:List AT}(h:z.all flat=true):gY ρ z z:=
 ⟨rfl,λi x y hx hy=>by
  rw[hx]at hy;injection hy with hy;subst hy
  rw[Tv]at h
  exact .flat (h x (List.mem_of_getElem? hx))⟩
theorem Iz{a b:Nat}(h:Te a b=false):¬a<b:=by
 intro hh;have:Te a b=true:=by simpa[UI]using hh
 rw[this]at h;cases h
def Re(d l:Nat)(x':Option AT):Prop:=(x'=none/\l=d)\/∃k,x'=some (.int k (Int.ofNat l))
theorem yU{ρ:Ren}{d l:Nat}{x x':Option AT}(hx:(x=none/\x'=none)\/∃y y',x=some y/\x'=some y'/\VRel ρ y y')(h:vC d x=some l):Re d l x':=by
 rcases hx with⟨rfl,rfl⟩|⟨y,y',rfl,rfl,hr⟩
 ·injection h with h;exact .inl ⟨rfl,h.symm⟩
 ·unfold vC at h;split at h
  ·rename_i e;cases e
  ·rename_i k n e;injection e with e;injection h with h;subst h e
   exact .inr ⟨k,by rw[hr.gQ rfl]⟩
  ·cases h
theorem Ge{P:SZ}{w:SE}{len cap l h:Nat}{lo' hi':Option AT}(hlo:Re 0 l lo')(hhi:Re len h hi')(hl:l<=h)(hh:h<=cap):
  (Instr.sliceBounds true len cap lo' hi' none).run P w=.ok (l,h,cap) w:=by
 rcases hlo with⟨rfl,rfl⟩|⟨k,rfl⟩<;>rcases hhi with⟨rfl,rfl⟩|⟨k',rfl⟩<;>simp[Instr.sliceBounds,Instr.sliceBound,asIntOf,hl,hh]
theorem FX{P:SZ}{w:SE}{ρ:Ren}{t el:Nat}{ti:TypeInfo}{x x' v y y' z z':AT}(ht:P.underlying t=some (.slice el))(hti:P.info? el=some ti)(hx:VRel ρ x x')(hy:VRel ρ y y')(hz:VRel ρ z z')(h:RN x (iB y) (iB z)=some v):
  ∃v',(Instr.sliceAt t x' none (some y') (some z')).run P w=.ok v' w/\VRel ρ v v':=by
 unfold RN at h;split at h
 ·rename_i b o l c h1 k1 hh kk;cases hb:(SF h1 k1&&Tj h1 l&&Te h1 UNK&&Tj c UNK)
  ·rw[hb]at h;cases h
  ·rw[hb,cond_true]at h;injection h with h;subst h
   simp only[No,X6,UI]at hb;obtain⟨⟨⟨hb1,hb2⟩,hb3⟩,hb4⟩:=hb;have hb1:=SG hb1;subst hb1
   have ny:∃q,y'=.int q (Int.ofNat h1):=by
    unfold iB at hh;split at hh
    ·rename_i q n;injection hh with hh;subst hh
     exact⟨q,hy.gQ rfl⟩
    ·cases hh
   have nz:∃q,z'=.int q (Int.ofNat h1):=by
    unfold iB at kk;split at kk
    ·rename_i q n;injection kk with kk;subst kk
     exact⟨q,hz.gQ rfl⟩
    ·cases kk
   obtain⟨q,rfl⟩:=ny;obtain⟨q2,rfl⟩:=nz
   have fin:∀(p:Place) (c':Nat),ρ b=some p->l<=c'->∃v',(Instr.sliceAt t (.slice (some ⟨p.blk,p.base+o,none⟩) l c') none (some (.int q (Int.ofNat h1))) (some (.int q2 (Int.ofNat h1)))).run P w=.ok v' w/\VRel ρ (.slice (some ⟨b,o,none⟩) h1 h1) v':=by
    intro p c' hp hlc;refine⟨.slice (some ⟨p.blk,p.base+o,none⟩) h1 h1,?_,.slice hp (IN _) (λe=>by omega) (λ_=>rfl) (by unfold UNK at hb3;unfold VAG;omega)⟩;have hle:h1<=c':=by omega
    simp[Instr.sliceAt,run_underlying ht,Instr.slice,Instr.sliceBounds,Instr.sliceBound,asIntOf,hle,run_sizeOf hti];intro _;rw[addr_add,Nat.add_zero]
   cases hx with
   |flat hf=>simp[flat]at hf
   |vag=>unfold UNK VAG at hb4;omega
   |slice hp hn hu hk hv=>exact fin _ _ hp hn
 ·cases h
theorem FZ{P:SZ}{w:SE}{ρ:Ren}{t el sz:Nat}{ti:TypeInfo}{x x' v:AT}{lo hi lo' hi':Option AT}(ht:P.underlying t=some (.slice el))(hti:P.info? el=some ti)(hz:ti.size=sz)
  (hlo:(lo=none/\lo'=none)\/∃y y',lo=some y/\lo'=some y'/\VRel ρ y y') (hhi:(hi=none/\hi'=none)\/∃y y',hi=some y/\hi'=some y'/\VRel ρ y y')
  (hsz:∀b o n p,x=.slice (some ⟨b,o,none⟩) n UNK->ρ b=some p->p.sz=sz) (hx:VRel ρ x x') (h:wU sz lo hi x=some v):∃v',(Instr.sliceAt t x' lo' hi' none).run P w=.ok v' w/\VRel ρ v v':=by
 have go:∀(a:Option VD) (len cap l h:Nat),l<=h->h<=len->len<=cap->vC 0 lo=some l->vC len hi=some h->
   (Instr.sliceAt t (.slice a len cap) lo' hi' none).run P w=.ok (.slice (if cap=l then a else a.map (·.add (l*sz))) (h-l) (cap-l)) w:=by
  intro a len cap l h h1 h2 h3 h4 h5;simp[Instr.sliceAt,run_underlying ht,Instr.slice,Ge (P:=P) (w:=w) (cap:=cap) (yU hlo h4) (yU hhi h5) h1 (by omega),run_sizeOf hti,hz]
 unfold wU at h;split at h
 ·rename_i a len cap;split at h
  ·rename_i l hh hlo1 hhi1;cases hb:(Tj l hh&&Tj hh len)
   ·simp[hb]at h
   ·simp only[hb,cond_true]at h;simp only[No,X6]at hb;obtain⟨hb1,hb2⟩:=hb;unfold RR at h;split at h
    ·rename_i b o;cases hvag:SF cap VAG
     ·rw[hvag,cond_false]at h;have hnv:cap≠VAG:=by intro e;subst e;simp at hvag
      cases hx with
      |flat hf=>simp[flat]at hf
      |vag=>exact absurd rfl hnv
      |slice hp hn hu hk hv=>
       rename_i c' p;refine⟨_,go _ _ _ _ _ hb1 hb2 hn hlo1 hhi1,?_⟩
       have moved:l<c'\/l=0->(if c'=l then(some ⟨p.blk,p.base+o,none⟩:Option VD)else(some (⟨p.blk,p.base+o,none⟩:VD)).map (·.add (l*sz)))=some ⟨p.blk,p.base+(o+l*sz),none⟩:=by
        intro hl;by_cases e:c'=l
        ·have e0:l=0:=by omega
         rw[if_pos e,e0];simp
        ·rw[if_neg e];simp only[Option.map_some,addr_add,Ux]
       cases hunk:SF cap UNK
       ·rw[hunk,cond_false]at h;have hnu:cap≠UNK:=by intro e;subst e;simp at hunk
        have hc:=hk hnu;subst hc;cases hcu:Te c' UNK
        ·simp[hcu]at h
        rw[hcu,cond_true]at h;have hcu:c'<UNK:=by simpa[UI]using hcu
        cases hlt:(Te l c' || SF l 0)
        ·rw[hlt,cond_false]at h;injection h with h;subst h
         simp only[Ya]at hlt;have h1:¬l<c':=Iz hlt.1;have e1:hh-l=0:=by omega
         rw[e1];split
         ·exact .vag
         ·simp only[Option.map_some,addr_add];exact .vag
        ·rw[hlt,cond_true]at h;injection h with h;subst h
         rw[Uw,UI]at hlt;have hl0:l<c'\/l=0:=hlt.imp id (λe=>SG e);rw[moved hl0];refine .slice hp (show hh-l<=c'-l by omega) (λe=>?_) (λ_=>rfl) (λe=>?_)
         rotate_left
         ·have e:c'-l=VAG:=e;have:VAG=UNK+1:=rfl;omega
         have e:c'-l=UNK:=e;omega
       ·rw[hunk,cond_true]at h;have hcu:cap=UNK:=SG hunk;cases hlt:(Te l len || SF l 0)
        ·rw[hlt,cond_false]at h;injection h with h;subst h
         simp only[Ya]at hlt;have h1:¬l<len:=Iz hlt.1;have e1:hh-l=0:=by omega
         rw[e1];split
         ·exact .vag
         ·simp only[Option.map_some,addr_add];exact .vag
        ·rw[hlt,cond_true]at h;injection h with h;subst h
         rw[Uw,UI]at hlt
         have hl0:l<c'\/l=0:=by
          rcases hlt with e|e
          ·left;omega
          ·right;exact SG e
         rw[moved hl0];refine .slice hp (show hh-l<=c'-l by omega) (λ_=>?_) (λe=>absurd rfl e) (by decide);have e3:=hu hcu;have e4:=hsz b o len p (by rw[hcu]) hp;show o+l*sz+(c'-l)*p.sz=p.cap;rw[e4]at e3 ⊢;rw[<-e3,Ux,<-Nat.add_mul]
         congr 2;omega
     ·rw[hvag,cond_true]at h;injection h with h;subst h
      have hcv:cap=VAG:=SG hvag;subst hcv
      cases hx with
      |flat hf=>simp[flat]at hf
      |vag=>
       rename_i c' a';refine⟨_,go _ _ _ _ _ hb1 hb2 (Nat.zero_le _) hlo1 hhi1,?_⟩;have e0:hh-l=0:=by omega
       rw[e0];split
       ·exact .vag
       ·simp only[Option.map_some,addr_add];exact .vag
      |slice hp hn hu hk hv=>exact absurd rfl hv
    ·cases hb:(SF len 0&&SF cap 0)
     ·simp[hb]at h
     ·rw[hb,cond_true]at h;injection h with h;subst h
      rw[No]at hb;have e1:len=0:=SG hb.1;have e2:cap=0:=SG hb.2;subst e1 e2;have e:=hx.gQ rfl;subst e;refine⟨_,go _ _ _ _ _ hb1 hb2 (IN _) hlo1 hhi1,?_⟩;have e3:hh=0:=by omega
      have e4:l=0:=by omega
      subst e3 e4;exact .flat rfl
    ·cases h
  ·cases h
 ·cases h
section
variable{μ:Type}[AMem μ]{P:SZ}{ρ:Ren}{V:Nat->Option Blk}{w:SE}{B:Nat}
theorem heap_alloc(w:SE)(o:Obj):(w.alloc o).heap[w.heap.size]?=some o:=by show(w.heap.push o)[w.heap.size]?=_;simp
theorem Post.new{m:μ}{n n':Nat}(hm:MRel ρ V w B)(hlim:AMem.lim m n=true)(hfree:lN ρ n)(O:Blk)(o:Obj)(cap:Nat)
  (hO:∀ρ':Ren,ρ.le ρ'->nA ρ' (w.alloc o) B ⟨w.heap.size,0,cap,O.sz⟩ O) (hn:n'=n+1):
  ∃ρ':Ren,ρ' n=some ⟨w.heap.size,0,cap,O.sz⟩/\Post ρ V w B n (If m n (some O)) n' (bit n) ρ' (w.alloc o):=by
 subst hn
 have hle:Ren.le ρ (λb=>if b=n then some ⟨w.heap.size,0,cap,O.sz⟩else ρ b):=by
  intro b p h;have:b≠n:=by intro e;subst e;rw[hfree b (IN _)]at h;cases h
  simp[this,h]
 have hget:AMem.get (If m n (some O)) n=some O:=by rw[AMem.get_put m n n _ hlim,if_pos rfl]
 refine⟨λb=>if b=n then some ⟨w.heap.size,0,cap,O.sz⟩else ρ b,by simp,hle,?_,?_,?_,Tf _,λk hk _=>UG w o k hk,?_,λb hb=>by
  rw[gx]at hb;have hb:n=b:=of_decide_eq_true hb;subst hb
  exact⟨⟨_,if_pos rfl⟩,λh=>absurd h (Xw _)⟩⟩
 ·intro b p h;by_cases e:b=n
  ·subst e;exact .inr ⟨IN _,Td _⟩
  ·simp[e]at h;exact .inl h
 ·refine⟨?_,?_,?_,?_,hm.gl.mono ((S0 B w).alloc hm.le o)⟩
  ·intro b p O' hp hV;by_cases e:b=n
   ·subst e;simp at hp;subst hp;simp[upd,gx,hget]at hV;subst hV;exact hO _ hle
   ·simp[e]at hp;have hne:¬n=b:=λh=>e h.symm;simp[upd,gx,hne]at hV;have hlt:=hm.fresh b p hp;exact(hm.blk b p O' hp hV).mono hle (UG w o p.blk hlt)
  ·intro b1 b2 p1 p2 O1 O2 h1 h2 hV1 hV2 hne hw;by_cases e1:b1=n
   ·subst e1;simp at h1;subst h1;have e2:¬b2=b1:=λh=>hne h.symm;simp[e2]at h2;have:=hm.fresh b2 p2 h2;simp;omega
   ·simp[e1]at h1;have hne1:¬n=b1:=λh=>e1 h.symm;simp[upd,gx,hne1]at hV1;by_cases e2:b2=n
    ·subst e2;simp at h2;subst h2;have:=hm.fresh b1 p1 h1;simp;omega
    ·simp[e2]at h2;have hne2:¬n=b2:=λh=>e2 h.symm;simp[upd,gx,hne2]at hV2;exact hm.ij b1 b2 p1 p2 O1 O2 h1 h2 hV1 hV2 hne hw
  ·intro b p h;by_cases e:b=n
   ·subst e;simp at h;subst h;simp
   ·simp[e]at h;have:=hm.fresh b p h;simp;omega
  ·have:=hm.le;simp;omega
 ·exact(S0 B w).alloc hm.le o
 ·intro b p h;by_cases e:b=n
  ·subst e;simp at h;subst h;exact .inr (.inl (IN _))
  ·simp[e]at h;exact .inl h
theorem Post.newB{m:μ}{n n':Nat}(hm:MRel ρ V w B)(hlim:AMem.lim m n=true)(hfree:lN ρ n)(O:Blk){w':SE}(hbw:Below w.heap.size w w')(hsz:w.heap.size<w'.heap.size)(cap:Nat)
  (hO:∀ρ':Ren,ρ.le ρ'->nA ρ' w' B ⟨w.heap.size,0,cap,O.sz⟩ O) (hn:n'=n+1):
  ∃ρ':Ren,ρ' n=some ⟨w.heap.size,0,cap,O.sz⟩/\Post ρ V w B n (If m n (some O)) n' (bit n) ρ' w':=by
 subst hn
 have hle:Ren.le ρ (λb=>if b=n then some ⟨w.heap.size,0,cap,O.sz⟩else ρ b):=by
  intro b p h;have:b≠n:=by intro e;subst e;rw[hfree b (IN _)]at h;cases h
  simp[this,h]
 have hget:AMem.get (If m n (some O)) n=some O:=by rw[AMem.get_put m n n _ hlim,if_pos rfl]
 refine⟨λb=>if b=n then some ⟨w.heap.size,0,cap,O.sz⟩else ρ b,by simp,hle,?_,?_,?_,Tf _,λk hk _=>hbw.block k hk,?_,λb hb=>by
  rw[gx]at hb;have hb:n=b:=of_decide_eq_true hb;subst hb
  exact⟨⟨_,if_pos rfl⟩,λh=>absurd h (Xw _)⟩⟩
 ·intro b p h;by_cases e:b=n
  ·subst e;exact .inr ⟨IN _,Td _⟩
  ·simp[e]at h;exact .inl h
 ·refine⟨?_,?_,?_,?_,hm.gl.mono (hbw.mono hm.le)⟩
  ·intro b p O' hp hV;by_cases e:b=n
   ·subst e;simp at hp;subst hp;simp[upd,gx,hget]at hV;subst hV;exact hO _ hle
   ·simp[e]at hp;have hne:¬n=b:=λh=>e h.symm;simp[upd,gx,hne]at hV;have hlt:=hm.fresh b p hp;exact(hm.blk b p O' hp hV).mono hle (hbw.block p.blk hlt)
  ·intro b1 b2 p1 p2 O1 O2 h1 h2 hV1 hV2 hne hw;by_cases e1:b1=n
   ·subst e1;simp at h1;subst h1;have e2:¬b2=b1:=λh=>hne h.symm;simp[e2]at h2;have:=hm.fresh b2 p2 h2;simp;omega
   ·simp[e1]at h1;have hne1:¬n=b1:=λh=>e1 h.symm;simp[upd,gx,hne1]at hV1;by_cases e2:b2=n
    ·subst e2;simp at h2;subst h2;have:=hm.fresh b1 p1 h1;simp;omega
    ·simp[e2]at h2;have hne2:¬n=b2:=λh=>e2 h.symm;simp[upd,gx,hne2]at hV2;exact hm.ij b1 b2 p1 p2 O1 O2 h1 h2 hV1 hV2 hne hw
  ·intro b p h;by_cases e:b=n
   ·subst e;simp at h;subst h;exact hsz
   ·simp[e]at h;have:=hm.fresh b p h;omega
  ·have:=hm.le;omega
 ·exact hbw.mono hm.le
 ·intro b p h;by_cases e:b=n
  ·subst e;simp at h;subst h;exact .inr (.inl (IN _))
  ·simp[e]at h;exact .inl h
theorem gW{m:μ}{n b:Nat}{O:Blk}(h:jc m n b=some O):b<n/\AMem.get m b=some O:=by
 unfold jc at h;cases hb:Te b n
 ·simp[hb]at h
 ·simp[hb]at h;exact⟨by simpa[UI]using hb,h⟩
theorem ji{m:μ}{n b F:Nat}{c:List AT}{sz:Nat}{opn wr:Bool}{p:Place}(hm:MRel ρ V w B)(hag:iX V m n F)(hF:F.testBit b=true)
  (hg:jc m n b=some (.cells c sz opn wr)) (hp:ρ b=some p):V b=some (.cells c sz opn wr)/\nA ρ w B p (.cells c sz opn wr):=by
 obtain⟨h1,h2⟩:=gW hg;have hV:=(hag b h1 hF).trans h2;exact⟨hV,hm.blk b p _ hp hV⟩
theorem nP{c:List AT}{sz:Nat}{opn wr:Bool}{p:Place}(h:nA ρ w B p (.cells c sz opn wr)){o:Nat}{x:AT}(hx:c[o]?=some x):
  ∃y,w.cell? ⟨p.blk,p.base+o,none⟩=some y/\VRel ρ x y:=by
 obtain⟨_,cc,e,fz,h2,h3,_⟩:=h;obtain⟨y,hy,hr⟩:=h3 o x hx;exact⟨y,by simp[World.cell?,h2,hy],hr⟩
theorem GL{m m':μ}{n n' r wm t:Nat}{x x' v:AT}(hagg:mB P t=some false)(hm:MRel ρ V w B)(hx:VRel ρ x x')(h:Ak m n x=.ok v m' n' r wm)(hag:iX V m n (OF r wm)):
  ∃v',(Instr.loadAt t x').run P w=.ok v' w/\VRel ρ v v'/\m'=m/\n'=n/\wm=0:=by
 unfold Ak at h;split at h
 ·rename_i b o
  cases hg:jc m n b with
  |none=>rw[hg]at h;cases h
  |some O=>
   cases O with
   |map es=>rw[hg]at h;cases h
   |cells c sz opn wr=>
   rw[hg]at h;have h:py m n b (lC c o)=.ok v m' n' r wm:=h;rw[kD]at h
   cases hc:c[o]? with
   |none=>rw[hc]at h;cases h
   |some y=>
    rw[hc]at h;have h:OR.ok y m n (bit b) 0=.ok v m' n' r wm:=h;injection h with e1 e2 e3 e4 e5
    subst e1 e2;subst e3 e4 e5
    cases hx with
    |flat hf=>simp[flat]at hf
    |ptr hp=>rename_i p;obtain⟨_,hb⟩:=ji hm hag (by rw[gv,gx];simp) hg hp;obtain⟨y',hy,hr⟩:=nP hb hc;exact⟨y',by simp[Instr.loadAt,Instr.sureAddr,loadVar,mN hagg,hy],hr,rfl,rfl,rfl⟩
 ·cases h
theorem vW{l:Option (List AT)}{v:AT}(h:uW l=some v):∃c,l=some c/\v=.agg c.toArray:=by
 unfold uW at h;split at h
 ·injection h with h;exact⟨_,rfl,h.symm⟩
 ·cases h
theorem oE{c l:List AT}{sz o k:Nat}{opn wr:Bool}{p:Place}(h:nA ρ w B p (.cells c sz opn wr))(hl:je c o k=some l):
  ∃l',gY ρ l l'/\l'.length=k/\∀j v,l'[j]?=some v->w.cell? (⟨p.blk,p.base+o,none⟩:VD)=w.cell? ⟨p.blk,p.base+o,none⟩/\w.cell? ((⟨p.blk,p.base+o,none⟩:VD).add j)=some v:=by
 obtain⟨_,h2,h3⟩:=uR hl
 have hex:∀j,j<k->∃y,w.cell? ⟨p.blk,p.base+(o+j),none⟩=some y/\∀x,l[j]?=some x->VRel ρ x y:=by
  intro j hj;have hlj:j<l.length:=by omega
  have hx:c[o+j]?=some l[j]:=by rw[<-h3 j hj];exact SH hlj
  obtain⟨y,hy,hr⟩:=nP h hx;exact⟨y,hy,λx hx'=>by rw[SH hlj]at hx';injection hx' with e;subst e;exact hr⟩
 refine⟨(List.range k).map λj=>(w.cell? ⟨p.blk,p.base+(o+j),none⟩).getD undef,⟨by simp[h2],λj x y hx hy=>?_⟩,by simp,λj v hv=>⟨rfl,?_⟩⟩
 ·have hj:j<k:=by have:=(S'.1 hx).1;omega
  obtain⟨y',hy',hr⟩:=hex j hj;simp[hj,hy']at hy;subst hy;exact hr x hx
 ·have hj:j<k:=by have:=(S'.1 hv).1;simpa using this
  obtain⟨y',hy',_⟩:=hex j hj;simp[hj,hy']at hv;subst hv;rw[addr_add,Ux];exact hy'
theorem GK{m m':μ}{n n' r wm t k:Nat}{x x' v:AT}(hagg:mB P t=some true)(hsz:pn P t k=true)(hm:MRel ρ V w B)(hx:VRel ρ x x')(h:Aj k m n x=.ok v m' n' r wm)(hag:iX V m n (OF r wm)):
  ∃v',(Instr.loadAt t x').run P w=.ok v' w/\VRel ρ v v'/\m'=m/\n'=n/\wm=0:=by
 unfold Aj at h;split at h
 ·rename_i b o
  cases hg:jc m n b with
  |none=>rw[hg]at h;cases h
  |some O=>
   cases O with
   |map es=>rw[hg]at h;cases h
   |cells c sz opn wr=>
   rw[hg]at h;have h:py m n b (uW (je c o k))=.ok v m' n' r wm:=h
   cases hc:uW (je c o k)with
   |none=>rw[hc]at h;cases h
   |some y=>
    rw[hc]at h;have h:OR.ok y m n (bit b) 0=.ok v m' n' r wm:=h;injection h with e1 e2 e3 e4 e5
    subst e1 e2;subst e3 e4 e5;obtain⟨l,hl,rfl⟩:=vW hc;obtain⟨ti,hti,hts⟩:=kf hsz
    cases hx with
    |flat hf=>simp[flat]at hf
    |ptr hp=>rename_i p;obtain⟨_,hb⟩:=ji hm hag (by rw[gv,gx];simp) hg hp;obtain⟨l',hr,hlen,hcell⟩:=oE hb hl;refine⟨.agg l'.toArray,?_,hr.agg,rfl,rfl,rfl⟩;have:=run_loadCells_list (P:=P) w ⟨p.blk,p.base+o,none⟩ l' (λj v hv=>(hcell j v hv).2);rw[hlen]at this;simp[Instr.loadAt,Instr.sureAddr,loadVar,mN hagg,run_sizeOf hti,hts,this]
 ·cases h
theorem Kz{t g:Nat}{cs:List AT}(hagg:mB P t=some true)(hsz:pn P t cs.length=true)(hm:MRel ρ V w B)(hg:aec.any (λp=>p.1==g&&qU p.2 cs)=true):
  (Instr.loadAt t (.pointer (some ⟨g,0,none⟩))).run P w=.ok (.agg cs.toArray) w:=by
 obtain⟨ti,hti,hts⟩:=kf hsz;obtain⟨p,hp,hpg⟩:=List.any_eq_true.1 hg;rw[No,beq_iff_eq]at hpg;obtain⟨rfl,hv⟩:=hpg;have hv:=tX hv
 have:=run_loadCells_list (P:=P) w ⟨p.1,0,none⟩ cs (λj v hv'=>by
  rw[addr_add,Nat.zero_add]
  exact hm.gl.here p hp j v (by rw[hv];exact hv'))
 simp[Instr.loadAt,Instr.sureAddr,loadVar,mN hagg,run_sizeOf hti,hts,this]
theorem Post.write{m:μ}{n b:Nat}{c c':List AT}{sz:Nat}{opn:Bool}{p:Place}{w':SE}(hm:MRel ρ V w B)(hlim:AMem.lim m b=true)(hp:ρ b=some p)(hV:V b=some (.cells c sz opn true))
  (hb:nA ρ w' B p (.cells c' sz opn true)) (hother:∀k,k≠p.blk->w'.heap[k]?=w.heap[k]?) (hos:w'.os=w.os) (htape:w'.tape=w.tape) (hout:w'.output=w.output) (hsize:w'.heap.size=w.heap.size):
  Post ρ V w B n (If m b (some (.cells c' sz opn true))) n (bit b) ρ w':=by
 have hBp:B<=p.blk:=by obtain⟨_,_,_,_,_,_,h4,_⟩:=hb;exact(h4 rfl).1
 refine⟨ρ.le_refl,λ_ _ h=>.inl h,⟨?_,?_,?_,?_,hm.gl.mono ⟨hos,htape,hout,by omega,λk hk=>hother k (by omega)⟩⟩,⟨hos,htape,hout,by omega,λk hk=>hother k (by omega)⟩,IN _,λk _ hk=>hother k (λe=>hk b p hp (by rw[gx];simp) e.symm),λ_ _ h=>.inl h,λk hk=>by
  rw[gx]at hk;have hk:b=k:=of_decide_eq_true hk;subst hk
  exact⟨⟨p,hp⟩,λ_=>⟨_,hV,rfl⟩⟩⟩
 ·intro b2 p2 O2 h2 hV2;by_cases e:b2=b
  ·subst e;rw[hp]at h2;injection h2 with h2;subst h2
   simp[upd,gx,AMem.get_put m b2 b2 _ hlim]at hV2;subst hV2;exact hb
  ·have hne:¬b=b2:=λh=>e h.symm;simp[upd,gx,hne]at hV2;have hx:=hm.ij b b2 p p2 _ O2 hp h2 hV hV2 hne rfl;exact(hm.blk b2 p2 O2 h2 hV2).mono ρ.le_refl (hother _ (λh=>hx h.symm))
 ·intro b1 b2 p1 p2 O1 O2 h1 h2 hV1 hV2 hne hw
  have old:∀{b3:Nat} {O3:Blk},upd V (bit b) (If m b (some (.cells c' sz opn true))) b3=some O3->∃O4,V b3=some O4/\O4.wr=O3.wr:=by
   intro b3 O3 h;by_cases e:b3=b
   ·subst e;simp[upd,gx,AMem.get_put m b3 b3 _ hlim]at h;subst h;exact⟨_,hV,rfl⟩
   ·have hne:¬b=b3:=λh=>e h.symm;simp[upd,gx,hne]at h;exact⟨_,h,rfl⟩
  obtain⟨O1',h1',e1⟩:=old hV1;obtain⟨O2',h2',e2⟩:=old hV2;exact hm.ij b1 b2 p1 p2 O1' O2' h1 h2 h1' h2' hne (e1.trans hw)
 ·intro b2 p2 h2;have:=hm.fresh b2 p2 h2;omega
 ·have:=hm.le;omega
theorem setRow_other(w:SE)(g:Nat)(c:Array AT)(k:Nat)(h:k≠g):(w.setRow g c).heap[k]?=w.heap[k]?:=by simp only[World.setRow,Array.getElem?_modify];rw[if_neg (λe=>h e.symm)]
theorem setRow_size(w:SE)(g:Nat)(c:Array AT):(w.setRow g c).heap.size=w.heap.size:=by simp[World.setRow]
theorem zN{c c' vs vs':List AT}{sz o:Nat}{opn:Bool}{p:Place}(h:nA ρ w B p (.cells c sz opn true))(hs:setCells c o vs=some c')(hv:gY ρ vs vs')(h1:∀v∈vs',v.oneCell'=true):
  ∃w',(storeCells ⟨p.blk,p.base+o,none⟩ vs' 0).run P w=.ok () w'/\nA ρ w' B p (.cells c' sz opn true)/\(∀k,k≠p.blk->w'.heap[k]?=w.heap[k]?)/\w'.os=w.os/\w'.tape=w.tape/\w'.output=w.output/\w'.heap.size=w.heap.size:=by
 obtain⟨hsz,cc,e,fz,h2,h3,h4,h5,h6⟩:=h;obtain⟨hB,hfz⟩:=h4 rfl;subst hfz;obtain⟨g1,g2,g3⟩:=BO hs;have hlen:vs.length=vs'.length:=hv.1;have hfit:p.base+o+0+vs'.length<=cc.size:=by omega
 refine⟨_,run_storeCells_at (P:=P) p.blk (p.base+o) e vs' 0 cc w h2 hfit h1,?_,λk hk=>setRow_other w _ _ k hk,rfl,rfl,rfl,setRow_size w _ _⟩;refine⟨hsz,_,e,(0,0),setRow_heap w p.blk cc _ e (0,0) h2,?_,λ_=>⟨hB,rfl⟩,λho=>?_,?_⟩
 ·intro i x hx;rw[g3 i]at hx;simp only[List.getElem?_toArray];have ht:(cc.toList.take (p.base+o+0)).length=p.base+o:=by simp;omega
  split at hx
  ·rename_i hi;obtain⟨y,hy,hr⟩:=hv.get hx;refine⟨y,?_,hr⟩;rw[S6,UL (by omega),ht,TA (by omega)];rw[<-hy];congr 1;omega
  ·rename_i hi;obtain⟨y,hy,hr⟩:=h3 i x hx;refine⟨y,?_,hr⟩;rw[S6];by_cases h0:i<o
   ·rw[TA (by omega),UP,if_pos (by omega)];simpa using hy
   ·rw[UL (by omega),ht,UL (by omega),U'];rw[show p.base+o+0+vs'.length+(p.base+i-(p.base+o)-vs'.length)=p.base+i by omega];simpa using hy
 ·have:=h5 ho;simp;omega
 ·simp;omega
theorem JH{m m':μ}{n n' r wm t k:Nat}{x x' y y' v:AT}(hsz:pn P t k=true)(hm:MRel ρ V w B)(hx:VRel ρ x x')(hy:VRel ρ y y')(h:stV k y.cells.toList m n x=.ok v m' n' r wm)(hag:iX V m n (OF r wm)):
  v=undef/\∃w',(Instr.storeAt t x' y').run P w=.ok () w'/\Post ρ V w B n m' n' wm ρ w':=by
 unfold stV at h;split at h
 ·rename_i b o;cases hc:(SF (kO y.cells.toList) k&&y.cells.toList.all one)
  ·rw[hc,cond_false]at h;cases h
  ·rw[hc,cond_true]at h;rw[No]at hc;unfold stC at h;split at h
   ·rename_i c sz opn hg;unfold tJ at h;split at h
    ·rename_i c' hs;injection h with e1 e2 e3 e4 e5
     subst e1 e2;subst e3 e4 e5;obtain⟨ti,hti,hts⟩:=kf hsz
     cases hx with
     |flat hf=>simp[flat]at hf
     |ptr hp=>
      rename_i p;obtain⟨hV,hb⟩:=ji hm hag (by rw[gv,gx];simp) hg hp;have hyc:=hy.cells
      have hone:∀v∈y'.cells.toList,v.oneCell'=true:=by
       intro v hv;obtain⟨j,hj,rfl⟩:=List.getElem_of_mem hv;have hj':j<y.cells.toList.length:=by rw[hyc.1];exact hj
       have:=hyc.2 j _ _ (SH hj') (SH hj);refine this.one ?_;have h2:=hc.2;rw[Tv]at h2;exact h2 _ (List.getElem_mem hj')
      obtain⟨w',hw,hb',ho,h1,h2,h3,h4⟩:=zN (P:=P) hb hs hyc hone;refine⟨rfl,w',?_,Post.write hm (AMem.get_lim _ _ _ (gW hg).2) hp hV hb' ho h1 h2 h3 h4⟩;have hlen:y'.cells.size=k:=by have e1:=SG hc.1;rw[xw]at e1;have:=hyc.1;simp at this e1;omega
      simp[Instr.storeAt,Instr.sureAddr,storeVar,run_sizeOf hti,hts,hlen,hw]
    ·cases h
   ·cases h
 ·cases h
end
end Go.Am
