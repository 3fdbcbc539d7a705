/- The machine and its runs, part 7. -/
import Derived.Test.YtiibhndkoknmnaaGreatDoorProg
import Derived.Test.YtiibhndkoknmnaaGreatDoorB6
set_option linter.unusedVariables false
set_option linter.unusedSimpArgs false
open Go renaming Value→AT
open Go.Proofs.Tryz renaming prog→SR
set_option maxRecDepth 1000000
namespace Go.Am.Gen
open Go Go.Am
def nth{α:Type}:List α->Nat->Option α
 |[],_=>none
 |a::_,0=>some a
 |_::l,i+1=>nth l i
def atG:Ctx->Nat->Option Nat
 |[],_=>none
 |l::G,t=>cond (l.any (Nat.beq t)) (some 0) ((atG G t).map Nat.succ)
def atL(G:Ctx):List Nat->Option (List Nat)
 |[]=>some []
 |t::l=>(atG G t).bind fun a=>(atL G l).map fun b=>a::b
def opd(G:Ctx):Operand->Option Opd
 | .tmp t=>(atG G t).map .v
 | .const v=>cond (gy v) (some (.c v)) none
 | .func f=>some (.c (.func (.func f) #[] #[]))
 | .global _=>none
def eu(G:Ctx):List Operand->Option (List Opd)
 |[]=>some []
 |x::xs=>(opd G x).bind fun a=>(eu G xs).map fun b=>a::b
def opdO(G:Ctx):Option Operand->Option (Option Opd)
 |none=>some none
 |some x=>(opd G x).map some
def ap1(f:Opd->AOp):Option (List Opd)->Option AOp
 |some [x]=>some (f x)
 |_=>none
def ap2(f:Opd->Opd->AOp):Option (List Opd)->Option AOp
 |some [x,y]=>some (f x y)
 |_=>none
section
variable(P:Program)
def sz(t:Nat):Nat:=match P.info? t with|some i=>i.size|none=>0
def by'(t:Nat):Nat:=match P.info? t with|some i=>i.bytes|none=>0
def zeV(t:Nat):Option Value:=match P.info? t with|some i=>i.zero|none=>none
def zeL(t:Nat):List Value:=match zeV P t with|some v=>v.cells.toList|none=>[]
def agg(t:Nat):Bool:=match P.underlying t with|some (.struct _)=>true|some (.array _ _)=>true|_=>false
def parts(G:Ctx)(pl:Nat->Option (Nat×Nat)):List (Nat×Operand)->Option (List (Nat×Nat×Opd))
 |[]=>some []
 |(i,x)::l=>(pl i).bind fun p=>(opd G x).bind fun y=>(parts G pl l).map fun r=>(p.1,p.2,y)::r
def mO(G:Ctx):List (Nat×Operand)->Option (List (Nat×Opd))
 |[]=>some []
 |(i,x)::l=>(opd G x).bind fun y=>(mO G l).map fun r=>(i,y)::r
def isBit:BinOp->Bool
 | .and | .or | .xor | .andNot | .shl | .shr=>true
 |_=>false
def isEq:BinOp->Bool
 | .eql | .neq=>true
 |_=>false
def isNI:Operand->Bool
 | .const .nilIface=>true
 |_=>false
def op(G:Ctx):Op->Option AOp
 | .move x | .assign x=>(opd G x).map .mov
 | .pick c a b=>match eu G [c,a,b]with|some [c,a,b]=>some (.pick c a b)|_=>none
 | .binOp o t x y _=>cond (isBit o) ((eu G [x,y]).map fun l=>.pur (.bit o t) l) (cond (isEq o&&isNI y) ((eu G [x]).map fun l=>.pur (.isn o t) l) (ap2 (.bin o t) (eu G [x,y])))
 | .unOp o _ x=>(opd G x).map (.una o)
 | .convert s d x=>match P.underlying d,P.underlying s with
  |some (.int k),some (.int _)=>(opd G x).map (.conv k)
  |some .string,some (.slice _)=>(eu G [x]).map (.mp .str)
  |some (.slice _),some .string=>(eu G [x]).map (.mp .s2b)
  |_,_=>none
 | .fieldAddr t x f=>match P.underlying t with
  |some (.struct fs)=>(nth fs.toList f).bind fun d=>(opd G x).map (.fld d.offset)
  |_=>none
 | .indexAddr t x i=>match P.underlying t with
  |some (.slice e)=>ap2 (.idx (sz P e)) (eu G [x,i])
  |some (.array n e)=>ap2 (.ida n (sz P e)) (eu G [x,i])
  |_=>none
 | .build t ps=>(match P.underlying t with
   |some (.struct fs)=>parts G (fun i=>(nth fs.toList i).map fun d:Field=>(d.offset,sz P d.type)) ps.toList
   |some (.array _ e)=>parts G (fun i=>some (i*sz P e,sz P e)) ps.toList
   |_=>none).map (.build (zeL P t))
 | .index t x i=>match P.underlying t with
  |some .string=>(eu G [x,i]).map (.pur .byte)
  |some (.array n e)=>cond (agg P e) none ((eu G [x,i]).map (.pur (.ind n)))
  |_=>none
 | .field t x f=>match P.underlying t with
  |some (.struct fs)=>(nth fs.toList f).bind fun d=>cond (agg P d.type) none ((eu G [x]).map (.pur (.fld d.offset)))
  |_=>none
 | .extract x i=>(opd G x).map (.extr i)
 | .nilCheck x=>(opd G x).map .nilck
 | .makeFunc (.func f) a c=>(eu G a.toList).bind fun a=>(eu G c.toList).map fun c=>.func f a c
 | .slice t x lo hi mx=>match P.underlying t,lo,hi,mx with
  |some .string,some lo,some hi,none=>(eu G [x,lo,hi]).map (.pur .sub)
  |some .string,some lo,none,none=>(eu G [x,lo]).map (.pur .subl)
  |some .string,none,some hi,none=>(eu G [x,hi]).map (.pur .subh)
  |some (.array n _),none,none,none=>(eu G [x]).map (.pur (.arrs n))
  |some (.slice _),none,some hi,some k=>(eu G [x,hi,k]).map (.mp .slx)
  |some (.slice e),lo,hi,none=>(opd G x).bind fun x=>(opdO G lo).bind fun lo=>(opdO G hi).map fun hi=>.slc (sz P e) x lo hi
  |_,_,_,_=>none
 | .alloc t=>some (.new (zeL P t))
 | .box _ x=>(opd G x).map .box
 | .buildSlice t len ps=>match P.underlying t with
  |some (.slice e)=>(mO G ps.toList).map (.mkl (sz P e) len (zeL P e))
  |_=>none
 | .makeSlice t l c=>match P.underlying t with
  |some (.slice e)=>ap2 (.make (sz P e) (by' P e) (zeL P e)) (eu G [l,c])
  |_=>none
 | .makeMap _ none=>some (.mp .mk [])
 | .lookup t x i ok=>match P.underlying t with
  |some (.map k e)=>(zeV P e).bind fun z=>(eu G [x,i]).map (.mp (.look k z ok))
  |_=>none
 | .mapUpdate t x k v | .insert t x k v=>match P.underlying t with
  |some (.map kt _)=>(eu G [x,k,v]).map (.mp (.upd kt))
  |_=>none
 | .sliceToArrayPointer t x=>match P.underlying t with
  |some (.array n _)=>(eu G [x]).map (.pur (.s2a n))
  |_=>none
 | .load _ (.global g)=>(aec.find? fun p=>Nat.beq p.1 g).map fun p=>.pur (.gld g p.2) []
 | .load t x=>cond (agg P t) ((opd G x).map (.ldn (sz P t))) ((opd G x).map .ld1)
 | .store t x y=>ap2 (.st (sz P t)) (eu G [x,y])
 | .call ⟨.builtin b,args,ts⟩=>match b,eu G args.toList,ts.toList.map P.underlying with
  | .len,some l,some (.map _ _)::_=>some (.mp .mln l)
  | .len,some [x],some (.slice _)::_=>some (.len false x)
  | .len,some [x],some .string::_=>some (.len true x)
  | .max,some [x,y],_=>some (.mx x y)
  | .min,some [x,y],_=>some (.pur .min [x,y])
  | .append,some [x,y],some (.slice e)::some (.slice _)::_=>some (.app (sz P e) (by' P e) x y)
  | .delete,some l,some (.map k _)::_=>some (.mp (.del k) l)
  | .copy,some l,some (.slice e)::_=>some (.mp (.cpy (sz P e)) l)
  |_,_,_=>none
 | .call ⟨.value (.func f),args,_⟩=>(eu G args.toList).map (.call f)
 | .call ⟨.value f,args,_⟩=>(opd G f).bind fun x=>(eu G args.toList).map (.callv x)
 |_=>none
def ai(ops:List Oper)(o:Oper)(G:Ctx):Option (AI×Ctx):=
 let nop (d t:Nat):=(atG G t).map fun i=>(AI.nop i,CS d (tI d G) i)
 match o.guard,o.dst,o.op with
 |none,some d,.move (.tmp t)=>nop d t
 |none,some d,.assign (.tmp t)=>nop d t
 |none,some d,p=>(op P G p).map fun x=>(.op x,[d]::tI d G)
 |none,none,p=>(op P G p).map fun x=>(.eff x,G)
 |some (j,w),d,p=>(op P G p).bind fun x=>(nth ops j).bind fun q=>q.dst.bind fun g=>(atG G g).map fun i=>match d with
  |some d=>(.opg x i w,[d]::tI d G)
  |none=>(.effg x i w,G)
def ais(ops:List Oper):List Oper->Ctx->Option (List AI×Ctx)
 |[],G=>some ([],G)
 |o::os,G=>(ai P ops o G).bind fun p=>(ais ops os p.2).map fun q=>(p.1::q.1,q.2)
end
def isRg:List Nat->Nat->Nat->Bool
 |[],_,0=>true
 |a::l,i,d+1=>Nat.beq a i&&isRg l (i+1) d
 |_,_,_=>false
def post(c:AC)(G:Ctx)(sel:List Nat)(d:Nat):AC×Ctx:=cond (isRg sel 0 d) (c,G) (.post c sel d,fixC sel d G)
def bitL(l:List Nat):Nat:=l.foldl (fun m t=>Nat.lor m (bit t)) 0
def tmps(l:List Operand):List Nat:=l.filterMap fun | .tmp t=>some t|_=>none
def retT(rs:List ResultVar):Nat:=bitL (rs.map fun | .tmp t=>t | .cell a _=>a)
def uses(rs:List ResultVar):Code->Option Nat
 | .region _ ops _=>some (bitL (ops.toList.flatMap fun o=>tmps o.op.operands.toList))
 | .seq a b=>(uses rs a).bind fun x=>(uses rs b).map (Nat.lor x)
 | .cond c a b=>(uses rs a).bind fun x=>(uses rs b).map fun y=>Nat.lor (bitL (tmps [c])) (Nat.lor x y)
 | .block _ b | .loop b | .scope b=>uses rs b
 | .ret=>some (retT rs)
 | .skip | .exit _ | .label _=>some 0
 |_=>none
def asgd:Code->Nat
 | .region _ ops _=>bitL (ops.toList.filterMap fun o=>o.dst)
 | .seq a b | .cond _ a b=>Nat.lor (asgd a) (asgd b)
 | .block _ b | .loop b | .scope b=>asgd b
 |_=>0
def rops(P:Program)(G:Ctx):List ResultVar->Option (List ROp)
 |[]=>some []
 |r::rs=>(match r with | .tmp t=>(atG G t).map ROp.v | .cell a t=>(atG G a).map fun i=>cond (agg P t) (.cells i (sz P t)) (.cell i)).bind fun x=>(rops P G rs).map fun l=>x::l
def bitsOf(nt m:Nat)(ok:Nat->Bool):List Nat:=(List.range nt).filter fun t=>Nat.testBit m t&&ok t
def head(G:Ctx)(T:List Nat)(a:Nat):Ctx:=T.map (fun t=>[t])++G.map fun l=>l.filter fun x=>!Nat.testBit a x
abbrev Lp:=List (List (List Nat)×AC)
abbrev Rs:=AC×Option Ctx×Lp
def stuck(c:Code)(L:Lp):Option Rs->Option Rs
 |some r=>some r
 |none=>match c with | .skip=>none|_=>some (.cond (.c (.tuple #[])) .skip .skip,none,L)
def norm(T:List Nat)(n:Nat)(a:AC):Option Ctx->Option (AC×Option Ctx)
 |none=>some (a,none)
 |some G=>(atL G T).map fun sel=>let r:=post a G sel (G.length-n);(r.1,some r.2)
def hasG(G:Ctx)(t:Nat):Bool:=(atG G t).isSome
def comp(P:Program)(nt:Nat)(rs:List ResultVar)(LP:List AC):Code->List (Nat×List Nat×Nat)->Ctx->Nat->Lp->Option Rs
 | .skip,_,G,_,L | .label _,_,G,_,L=>some (.skip,some G,L)
 | .scope c,B,G,v,L=>(comp P nt rs LP c B G v L).map fun r=>(.seq .skip r.1,r.2)
 | .region _ ops draw,_,G,v,L=>(ais P ops.toList ops.toList G).map fun p=>
   let k:=p.2.length-G.length
   let r:=post (cond draw (.regD p.1 (Fq [] ops.toList)) (.reg p.1)) p.2 ((List.range k).filter fun i=>((nth p.2 i).getD []).any (Nat.testBit v)) k
   (r.1,some r.2,L)
 | .seq a b,B,G,v,L=>(uses rs b).bind fun u=>(comp P nt rs LP a B G (Nat.lor v u) L).bind fun r=>r.2.1.bind fun G1=>
   (stuck b r.2.2 (comp P nt rs LP b B G1 v r.2.2)).map fun s=>(.seq r.1 s.1,s.2)
 | .cond c a b,B,G,v,L=>(opd G c).bind fun x=>(stuck a L (comp P nt rs LP a B G v L)).bind fun r=>(stuck b r.2.2 (comp P nt rs LP b B G v r.2.2)).bind fun s=>
   match r.2.1,s.2.1 with
   |some Ga,some Gb=>
    let T:=bitsOf nt (Nat.land (Nat.lor (asgd a) (asgd b)) v) fun t=>hasG Ga t&&hasG Gb t
    (norm T G.length r.1 (some Ga)).bind fun y=>(norm T G.length s.1 (some Gb)).map fun z=>(.cond x y.1 z.1,acH y.2 z.2,s.2.2)
   |p,q=>some (.cond x r.1 s.1,acH p q,s.2.2)
 | .block id b,B,G,v,L=>
   let a:=asgd b
   let T:=bitsOf nt (Nat.land a v) (hasG G)
   let Gt:=head G T a
   (comp P nt rs LP b ((id,T,G.length)::B) G v L).bind fun r=>(norm T G.length r.1 r.2.1).map fun y=>(.block id Gt y.1,some Gt,r.2.2)
 | .loop b,B,G,v,L=>(uses rs b).bind fun u=>
   let a:=asgd b
   let lv:=Nat.lor v u
   let A:=bitsOf nt (Nat.land a lv) (hasG G)
   let Gh:=head G A a
   (comp P nt rs LP b B Gh lv L).bind fun r=>(norm A G.length r.1 r.2.1).bind fun y=>(atL G A).map fun sel=>
    (.pre sel 0 (match nth LP r.2.2.length with|some c=>c|none=>.loop Gh y.1),none,r.2.2++[(Gh,y.1)])
 | .exit id,B,G,_,L=>(B.find? fun p=>Nat.beq p.1 id).bind fun p=>(atL G p.2.1).map fun sel=>
   let d:=G.length-p.2.2
   (cond (isRg sel 0 d) (.exit id) (.pre sel d (.exit id)),none,L)
 | .ret,_,G,_,L=>(rops P G rs).map fun l=>(.ret l,none,L)
 |_,_,_,_,_=>none
def fn(P:Program)(LP:List AC)(f:Func):Option (Lp×AFn):=f.body.bind fun c=>
 let n:=f.params.size+f.nfree
 (comp P f.ntmps f.results.toList LP c [] (CN n) 0 []).bind fun r=>
  (match r.2.1 with|none=>some []|some G=>rops P G f.results.toList).map fun e=>(r.2.2,⟨n,e,r.1⟩)
end Go.Am.Gen
namespace Go.Am.CR
open Go Go.Am
namespace K
abbrev v0:Opd:=.v 0
abbrev v1:Opd:=.v 1
abbrev v2:Opd:=.v 2
abbrev v3:Opd:=.v 3
abbrev v4:Opd:=.v 4
abbrev v5:Opd:=.v 5
abbrev v6:Opd:=.v 6
abbrev v7:Opd:=.v 7
abbrev v8:Opd:=.v 8
abbrev v9:Opd:=.v 9
abbrev v10:Opd:=.v 10
abbrev v11:Opd:=.v 11
abbrev v12:Opd:=.v 12
abbrev v13:Opd:=.v 13
abbrev v14:Opd:=.v 14
abbrev v15:Opd:=.v 15
abbrev v16:Opd:=.v 16
abbrev v17:Opd:=.v 17
abbrev v18:Opd:=.v 18
abbrev v19:Opd:=.v 19
abbrev v20:Opd:=.v 20
abbrev v21:Opd:=.v 21
abbrev v22:Opd:=.v 22
abbrev v23:Opd:=.v 23
abbrev v24:Opd:=.v 24
abbrev v25:Opd:=.v 25
abbrev v26:Opd:=.v 26
abbrev v27:Opd:=.v 27
abbrev v28:Opd:=.v 28
abbrev v29:Opd:=.v 29
abbrev v30:Opd:=.v 30
abbrev v31:Opd:=.v 31
abbrev v32:Opd:=.v 32
abbrev v33:Opd:=.v 33
abbrev v35:Opd:=.v 35
abbrev v36:Opd:=.v 36
abbrev v37:Opd:=.v 37
abbrev v39:Opd:=.v 39
abbrev v40:Opd:=.v 40
abbrev v41:Opd:=.v 41
abbrev v42:Opd:=.v 42
abbrev v43:Opd:=.v 43
abbrev v45:Opd:=.v 45
abbrev v47:Opd:=.v 47
abbrev v48:Opd:=.v 48
abbrev v49:Opd:=.v 49
abbrev v53:Opd:=.v 53
abbrev n0:AI:=.nop 0
abbrev n1:AI:=.nop 1
abbrev n2:AI:=.nop 2
abbrev n3:AI:=.nop 3
abbrev n4:AI:=.nop 4
abbrev n5:AI:=.nop 5
abbrev n6:AI:=.nop 6
abbrev n7:AI:=.nop 7
abbrev n8:AI:=.nop 8
abbrev n9:AI:=.nop 9
abbrev n10:AI:=.nop 10
abbrev n11:AI:=.nop 11
abbrev n12:AI:=.nop 12
abbrev n13:AI:=.nop 13
abbrev n14:AI:=.nop 14
abbrev n15:AI:=.nop 15
abbrev n16:AI:=.nop 16
abbrev n17:AI:=.nop 17
abbrev n18:AI:=.nop 18
abbrev n19:AI:=.nop 19
abbrev n20:AI:=.nop 20
abbrev n21:AI:=.nop 21
abbrev n22:AI:=.nop 22
abbrev n23:AI:=.nop 23
abbrev n24:AI:=.nop 24
abbrev n25:AI:=.nop 25
abbrev n26:AI:=.nop 26
abbrev n27:AI:=.nop 27
abbrev n28:AI:=.nop 28
abbrev n29:AI:=.nop 29
abbrev n30:AI:=.nop 30
abbrev n31:AI:=.nop 31
abbrev n32:AI:=.nop 32
abbrev n35:AI:=.nop 35
abbrev n36:AI:=.nop 36
abbrev n41:AI:=.nop 41
abbrev n47:AI:=.nop 47
abbrev n53:AI:=.nop 53
abbrev a(l:List AI)(x:AC):AC:=.seq (.reg l) x
abbrev b(x0:Opd):AI:=.op (.mov x0)
abbrev c(x0:Nat)(x1:Opd):AI:=.op (.fld x0 x1)
abbrev d(l:List AI)(s:List Nat)(d:Nat):AC:=.post (.reg l) s d
abbrev e(x0:BinOp)(x1:Nat)(x2:Opd)(x3:Opd):AI:=.op (.bin x0 x1 x2 x3)
abbrev f(x0:Opd):AI:=.op (.ld1 x0)
abbrev g(x0:Nat)(x1:List Opd):AI:=.op (.call x0 x1)
abbrev h(x0:Nat)(x1:Opd):AI:=.op (.extr x0 x1)
abbrev i(x0:Nat)(x1:Opd)(x2:Opd):AI:=.eff (.st x0 x1 x2)
abbrev j(x0:Nat)(x1:Opd):AI:=.op (.ldn x0 x1)
abbrev k(x0:Opd)(x1:Opd)(x2:Opd):AI:=.op (.pick x0 x1 x2)
abbrev l(x0:Opd):AI:=.op (.nilck x0)
abbrev m(l:List AI)(x:AC)(s:List Nat)(d:Nat):AC:=.post (.seq (.reg l) x) s d
abbrev n(x0:Opd):AI:=.op (.box x0)
abbrev o(x0:List AT):AI:=.op (.new x0)
abbrev p(x0:List AT)(x1:List (Nat×Nat×Opd)):AI:=.op (.build x0 x1)
abbrev q(g:Nat)(x0:BinOp)(x1:Nat)(x2:Opd)(x3:Opd):AI:=.opg (.bin x0 x1 x2 x3) g true
abbrev r(g:Nat)(x0:BinOp)(x1:Nat)(x2:Opd)(x3:Opd):AI:=.opg (.bin x0 x1 x2 x3) g false
abbrev s(x0:Nat)(x1:Opd)(x2:Opd):AI:=.op (.idx x0 x1 x2)
abbrev t(g:Nat)(x0:Opd):AI:=.opg (.ld1 x0) g true
abbrev u(g:Nat)(x0:Opd):AI:=.opg (.mov x0) g true
abbrev v(x0:Bool)(x1:Opd):AI:=.op (.len x0 x1)
abbrev w(g:Nat)(x0:Nat)(x1:Opd):AI:=.opg (.fld x0 x1) g true
abbrev x(g:Nat)(x0:Opd):AI:=.opg (.ld1 x0) g false
abbrev y(g:Nat)(x0:Nat)(x1:Opd):AI:=.opg (.fld x0 x1) g false
abbrev z(g:Nat)(x0:Opd):AI:=.opg (.mov x0) g false
abbrev A(x0:Nat)(x1:Nat)(x2:List AT)(x3:List (Nat×Opd)):AI:=.op (.mkl x0 x1 x2 x3)
abbrev B(x0:UnOp)(x1:Opd):AI:=.op (.una x0 x1)
abbrev C(x0:Nat)(x1:Nat)(x2:Opd)(x3:Opd):AI:=.op (.app x0 x1 x2 x3)
abbrev D(x0:POp)(x1:List Opd):AI:=.op (.pur x0 x1)
abbrev E(g:Nat)(x0:Nat)(x1:List Opd):AI:=.opg (.call x0 x1) g true
abbrev F(x0:IntKind)(x1:Opd):AI:=.op (.conv x0 x1)
abbrev G(x0:MOp)(x1:List Opd):AI:=.op (.mp x0 x1)
abbrev H(x0:Nat)(x1:List Opd)(x2:List Opd):AI:=.op (.func x0 x1 x2)
abbrev I(x0:Opd)(x1:List Opd):AI:=.op (.callv x0 x1)
abbrev J(g:Nat)(x0:Bool)(x1:Opd):AI:=.opg (.len x0 x1) g true
abbrev K(g:Nat)(x0:Bool)(x1:Opd):AI:=.opg (.len x0 x1) g false
abbrev L(g:Nat)(x0:Opd):AI:=.opg (.nilck x0) g false
abbrev M(x0:Nat)(x1:Nat)(x2:Opd)(x3:Opd):AI:=.op (.ida x0 x1 x2 x3)
abbrev N(g:Nat)(x0:Nat)(x1:Opd):AI:=.opg (.ldn x0 x1) g true
abbrev O(g:Nat)(x0:Nat)(x1:Opd)(x2:Opd):AI:=.opg (.idx x0 x1 x2) g true
abbrev P(g:Nat)(x0:Nat)(x1:Opd)(x2:Opd):AI:=.opg (.idx x0 x1 x2) g false
abbrev Q(x0:Nat)(x1:Opd)(x2:Option Opd)(x3:Option Opd):AI:=.op (.slc x0 x1 x2 x3)
abbrev R(x0:Nat)(x1:Nat)(x2:List AT)(x3:Opd)(x4:Opd):AI:=.op (.make x0 x1 x2 x3 x4)
abbrev S(x0:MOp)(x1:List Opd):AI:=.eff (.mp x0 x1)
abbrev T(g:Nat)(x0:Nat)(x1:List Opd):AI:=.opg (.call x0 x1) g false
abbrev U(g:Nat)(x0:Opd):AI:=.opg (.nilck x0) g true
abbrev V(g:Nat)(x0:Opd)(x1:Opd)(x2:Opd):AI:=.opg (.pick x0 x1 x2) g false
abbrev W(g:Nat)(x0:Nat)(x1:Opd):AI:=.opg (.ldn x0 x1) g false
abbrev X(x0:Opd)(x1:Opd):AI:=.op (.mx x0 x1)
abbrev Y(g:Nat)(x0:UnOp)(x1:Opd):AI:=.opg (.una x0 x1) g false
abbrev Z(g:Nat)(x0:Opd)(x1:Opd)(x2:Opd):AI:=.opg (.pick x0 x1 x2) g true
abbrev aa(g:Nat)(x0:UnOp)(x1:Opd):AI:=.opg (.una x0 x1) g true
abbrev ab(g:Nat)(x0:List AT)(x1:List (Nat×Nat×Opd)):AI:=.opg (.build x0 x1) g true
abbrev ad(g:Nat)(x0:POp)(x1:List Opd):AI:=.opg (.pur x0 x1) g false
abbrev ae(g:Nat)(x0:IntKind)(x1:Opd):AI:=.opg (.conv x0 x1) g false
abbrev ah(g:Nat)(x0:Opd)(x1:List Opd):AI:=.opg (.callv x0 x1) g true
abbrev aj:AT:=.int .i64 0
abbrev ak:AT:=.slice none 0 0
abbrev al:Opd:=.c (.bool false)
abbrev am:Opd:=.c (.int .i64 1)
abbrev an:AT:=.int .u8 0
abbrev ao:AC:=.ret [.v 0]
abbrev aq:Opd:=.c (.bool true)
abbrev ar:AT:=.pointer none
abbrev au:AC:=.cond v0 .skip (.pre [1] 3 (.exit 0))
abbrev av:Opd:=.c aj
abbrev aw:AI:=b (.c ak)
abbrev ax:AC:=.reg [e .add 3 v3 am,n0]
abbrev ay:AC:=.ret [.v 1,.v 0]
abbrev az:AC:=.skip
abbrev aA:Opd:=.c (.int .i64 2)
abbrev aB:AT:=.int .u64 0
abbrev aC:AI:=f v0
abbrev aD:AI:=h 1 v1
abbrev aE:AI:=h 0 v0
abbrev aF:Opd:=.c (.int .i64 8)
abbrev aG:AI:=e .lss 3 v1 v3
abbrev aH:AC:=.reg [e .add 3 v1 am,n0]
abbrev aI:AT:=.map none
abbrev aJ:Opd:=.c (.int .i64 65536)
abbrev aK:Opd:=.c (.int .i64 5)
abbrev aL:AI:=c 0 v0
abbrev aM:AC:=.cond v0 (a [b al] ao) az
abbrev aN:AI:=e .neq 28 v0 av
abbrev aO:AC:=.cond v0 az (.pre [] 2 (.exit 0))
abbrev aP:Opd:=.c ar
abbrev aQ:AI:=b av
abbrev aR:AI:=o [aj,aj,aj]
abbrev aS:AT:=.string ⟨#[]⟩
abbrev aT:AI:=v false v0
abbrev aU:AI:=A 3 1 [aj,aj,aj] [(0,v0)]
abbrev aV:AI:=B .not v0
abbrev aW:Opd:=.c (.int .i64 3)
abbrev aX:AI:=k v3 aq v0
abbrev aY:AI:=p [an,an,an,an,an,an,an,an] []
abbrev aZ:Opd:=.c (.int .i64 (-1))
abbrev a0:AC:=.ret [.v 2,.v 1,.v 0]
abbrev a1:AT:=.bool false
abbrev a2:AI:=k v3 v0 al
abbrev a3:AI:=o [an,an,an,an,an,an,an,an]
abbrev a4:Opd:=.c (.int .i64 16)
abbrev a5:AC:=a [n0,n0] ao
abbrev a6:AC:=a [n0,aN] (.cond v0 (a [n1,n1] (.ret [.v 1])) az)
abbrev a7:AC:=a [n0,aN] (.cond v0 (a [n1,aw,aw,n3] (.ret [.v 1,.v 0,.v 3])) az)
abbrev a8:AC:=.reg [e .add 3 v5 am,n0]
abbrev a9:AC:=.ret [.v 0,.v 2]
abbrev ba:AI:=i 3 v0 v1
abbrev bb:AI:=e .neq 28 v1 av
abbrev bc:AC:=a [n2,e .eql 44 v2 aP] (.cond v0 (a [aw,b aF] ay) az)
abbrev be:AC:=.cond v0 (a [aw] ao) az
abbrev bf:AC:=a [aQ] ao
abbrev bh:AI:=e .lss 3 v0 v2
abbrev bi:AI:=e .add 3 v2 v0
abbrev bj:AC:=.cond v0 az (.pre [1,2] 4 (.exit 0))
abbrev bk:AC:=.cond v0 az (.pre [1,2] 3 (.exit 2))
abbrev bm:AI:=k v2 v0 al
abbrev bn:AI:=i 1 v0 v2
abbrev bo:Opd:=.c (.int .i64 4)
abbrev bp:AC:=d [c 1 v2,aC,n6,G (.look 9 (.agg #[.int .i64 0,.int .i64 0,.pointer none]) true) [v0,v6],n0,aE,aD,o [aj,aj,ar],i 3 v0 v2,n1] [0,1] 6
abbrev bq:AI:=x 1 v0
abbrev br:AI:=e .add 3 v0 am
abbrev bu:AI:=j 3 v0
abbrev bv:AC:=a [n0,aN] (.cond v0 (a [n1,b aP,n2] a9) az)
abbrev bw:Opd:=.c (.int .u64 1)
abbrev bx:AI:=t 1 v0
abbrev bz:AI:=k v2 aq v0
abbrev bA:AC:=a [n0,aN] (.cond v0 (a [n1,aw,n2] a9) az)
abbrev bB:Opd:=.c (.string ⟨#[107,101,101,112]⟩)
abbrev bC:Opd:=.c (.int .i64 7)
abbrev bD:AI:=k v5 v0 al
abbrev bE:AI:=p [ak,aI] []
abbrev bF:AI:=c 2 v0
abbrev bG:AI:=n v0
abbrev bH:AI:=o [ak,aI]
abbrev bI:AI:=v false v2
abbrev bJ:AC:=.cond v0 (a [aw,b am] ay) az
abbrev bK:AC:=.ret [.cells 7 2,.v 0]
abbrev bL:AI:=c 1 v0
abbrev bM:AI:=b (.c aB)
abbrev bP:AI:=e .lss 3 v0 av
abbrev bQ:AI:=i 1 v0 v1
abbrev bR:AI:=c 3 v0
abbrev bS:AC:=a [n0,aV] (.cond v0 (.seq (d [p [aj,ak] [],i 2 v5 v0,b aA] [0] 2) (.ret [.cells 5 2,.v 0])) az)
abbrev bT:AC:=a [n1,bb] (.cond v0 (.seq (d [bE,n3,i 2 v6 v0,aw,n4] [0] 2) (.ret [.cells 6 2,.v 0,.v 3])) az)
abbrev bU:AC:=.ret [.v 0,.v 1]
abbrev bV:AC:=.cond v0 (.seq (d [p [ar] [],i 1 v4 v0,aw,b am] [0,1] 3) (.ret [.cells 5 1,.v 1,.v 0])) az
abbrev bW:AI:=o [aS,aj,aj,aj,aj]
abbrev bX:AI:=b (.c (.int .i64 11))
abbrev bY:AC:=.ret [.cells 5 3,.v 0]
abbrev bZ:AC:=.ret [.cells 3 2,.v 0]
abbrev b0:AC:=.exit 0
abbrev b1:AI:=q 1 .eql 28 v0 av
abbrev b2:AI:=c 4 v0
abbrev b3:AC:=a [n1,c 2 v4,aC,c 1 v6,aC,bi,e .lss 3 v6 v0] (.cond v0 az (.pre [6,7] 8 (.exit 2)))
abbrev b4:Opd:=.c (.int .i64 15)
abbrev b5:AC:=a [n1,e .eql 139 v1 aP] (.cond v0 bf az)
abbrev b6:AC:=.post (.regD [j 1 v2,g 98 [v0],j 1 v4,g 99 [v0],n2,n0] [0,1,0,7,15,31]) [0,2] 4
abbrev b7:AI:=r 2 .lss 3 v0 av
abbrev b8:AI:=e .lss 3 v2 v4
abbrev b9:Opd:=.c (.int .i64 9)
abbrev ca:AC:=.seq (d [c 0 v7,aC,n3,p [aj,ak] [(0,1,v0),(1,1,v3)],i 2 v9 v0,aQ] [0] 4) bK
abbrev cb:AC:=.cond v0 (a [b (.c aI),aw,b al] a0) az
abbrev cc:AC:=.cond v0 (a [n5,n5] (.ret [.v 5])) az
abbrev ce:AC:=.cond v0 (a [n2,n2] (.ret [.v 2])) az
abbrev cg:AI:=i 3 v0 v2
abbrev ci:AC:=.reg [e .add 3 v7 am,n0]
abbrev cj:AI:=h 2 v2
abbrev ck:AI:=t 3 v0
abbrev cl:AI:=o [aj,ak]
abbrev cm:AI:=F .u64 v0
abbrev cn:AC:=.ret [.cells 3 1,.v 0]
abbrev co:AI:=A 1 1 [aj] [(0,v0)]
abbrev cq:AI:=p [aj,ak] []
abbrev cr:AI:=o [aj,aj,ar]
abbrev ct:AI:=k v4 aq v0
abbrev cu:AI:=j 2 v0
abbrev cv:AI:=c 0 v1
abbrev cz:AC:=a [n2,n2,aQ] (.ret [.v 3,.v 0])
abbrev cB:AI:=b al
abbrev cF:AI:=i 1 v0 v3
abbrev cH:AC:=d [n5,g 326 [v5],n4,g 326 [v4],br,e .gtr 3 v2 v0,n0] [0] 4
abbrev cI:AC:=d [n2,g 326 [v2],n5,g 326 [v5],br,e .gtr 3 v2 v0,n0] [0] 4
abbrev cJ:AC:=.seq (d [A 3 0 [aj,aj,aj] [],n3,C 3 24 v0 v3,n0] [0] 2) ao
abbrev cL:AC:=a [n0,n0,aQ] ay
abbrev cM:AI:=k v4 v0 al
abbrev cN:AI:=e .geq 3 v0 av
abbrev cO:AI:=e .eql 3 v0 am
abbrev cP:AI:=e .add 3 v1 v0
abbrev cR:AI:=o [aj,aj,aj,a1,aS,aS,aj,aj,ak]
abbrev cS:AI:=i 2 v0 v2
abbrev cT:AC:=.cond v0 az (.pre [2] 4 b0)
abbrev cU:AC:=.seq (d [n3,j 3 v2,n6,g 328 [v4,v0,v6],n0] [0] 2) ao
abbrev cV:AI:=r 1 .gtr 3 v0 aJ
abbrev cY:AC:=.cond v0 (.seq (d [cq,i 2 v7 v0,b aF] [0] 2) bK) az
abbrev cZ:AC:=d [j 2 v2,n5,g 347 [v0,v5],n0,aE,aD,n1,n0] [0,1] 4
abbrev c0:AC:=.cond v0 (a [b bC] ao) az
abbrev c1:AC:=.cond v0 (a [b aF] ao) az
abbrev c2:Opd:=.c ak
abbrev c7:Opd:=.c (.int .i64 13)
abbrev c8:AI:=v false v1
abbrev da:AI:=k v5 aq v0
abbrev db:AI:=e .eql 28 v0 av
abbrev dd:Opd:=.c (.int .i64 6)
abbrev de:AC:=.cond v0 (a [bX] ao) az
abbrev df:AI:=x 3 v0
abbrev dg:AI:=j 1 v0
abbrev dh:AI:=e .sub 3 v0 am
abbrev dj:AI:=e .lss 3 v0 am
abbrev dk:AI:=e .eql 3 v0 av
abbrev dl:AI:=A 8 2 [an,an,an,an,an,an,an,an] [(0,v1),(1,v0)]
abbrev dm:AC:=d [n3,g 250 [v3],n0,aE,aD,aR,cg,n1] [0,1] 4
abbrev dn:AC:=.ret [.cells 4 2,.v 0]
abbrev dp:AI:=o [ak]
abbrev dq:AI:=i 2 v5 v0
abbrev dr:AC:=a [b aq] ao
abbrev ds:AT:=.nilFunc
abbrev dt:AC:=.seq (d [n2,l v2,c 5 v0,aC,n0] [0] 3) ao
abbrev du:AC:=.post az [3] 0
abbrev dv:Opd:=.c (.int .u64 5)
abbrev dw:AC:=d [n2,g 41 [v2],n0,aE,aD,n1,n0] [0,1] 3
abbrev dx:AI:=r 2 .gtr 3 v0 a4
abbrev dy:AI:=q 4 .eql 3 v2 v0
abbrev dz:AI:=q 1 .geq 3 v0 av
abbrev dA:AI:=j 8 v0
abbrev dB:AC:=.seq (d [cq,i 2 v3 v0,b am] [0] 2) bZ
abbrev dC:AI:=s 1 v4 v1
abbrev dD:AI:=i 1 v0 v4
abbrev dE:AI:=J 1 false v0
abbrev dG:AI:=k v7 v0 al
abbrev dH:AI:=g 349 [v0]
abbrev dI:AC:=.reg [n4,bL,aC,e .add 3 v6 v0,n0]
abbrev dJ:AC:=.cond v0 az (.pre [] 2 (.exit 2))
abbrev dL:AI:=A 1 1 [an] [(0,v0)]
abbrev dM:AC:=a [b aZ] ao
abbrev dO:AC:=.exit 1
abbrev dP:Opd:=.c (.int .i64 10)
abbrev dR(α:AC):AC:=.cond v0 α az
abbrev dS(α:AC)(β:AC):AC:=.cond v0 α β
abbrev dT(α:AC)(β:AC):AC:=.seq α β
abbrev dU(α:AI)(β:AI)(γ:AC):AC:=a [α,β] (.cond v0 γ az)
abbrev dV(α:Opd)(β:AC):AC:=.cond α β az
abbrev dX(α:Nat)(β:Nat)(γ:Nat):AC:=.ret [.cells α β,.v γ]
abbrev dY(α:AC):AC:=m [aG] (dT au (dT α ax)) [1,0] 5
abbrev dZ(α:AC)(β:AC):AC:=m [aG] (dT α (dT β ax)) [1,0] 5
abbrev eb(α:AI)(β:AC)(γ:AC):AC:=m [α] (dT β (dT γ ax)) [1,0] 5
abbrev ec(α:AI)(β:AC)(γ:AC):AC:=a [α] (dT β γ)
abbrev ed(α:Nat)(β:Nat):AC:=.ret [.cells α β,.v 1,.v 0]
abbrev ee(α:AC)(β:Nat)(γ:AC):AC:=dT (.post α [0] β) γ
abbrev ef(α:Nat)(β:Opd)(γ:Opd):AI:=e .eql α β γ
abbrev eg(α:AC):AC:=.seq α ao
abbrev eh(α:Nat)(β:Opd):AI:=g α [β,v0]
abbrev ei(α:AI)(β:AC)(γ:AC):AC:=a [bG,α] (.seq β γ)
abbrev ej(α:Opd)(β:Opd):AI:=e .add 3 α β
abbrev ek(α:AI)(β:Opd):AC:=.reg [α,e .add 3 β am,n0]
abbrev el(α:AI)(β:AC)(γ:AC):AC:=a [α,aQ] (dT β γ)
abbrev eo(α:Opd)(β:Opd):AI:=e .lss 3 α β
abbrev ep(α:Nat)(β:Opd):AI:=g α [v0,β]
abbrev es(α:AI)(β:AI)(γ:AC):AC:=a [α,β,aQ] γ
abbrev et(α:AC)(β:AC):AC:=m [bh] (dT α (dT β aH)) [0] 3
abbrev ew(α:Nat)(β:Nat):AC:=.ret [.v 1,.cells α β,.v 0]
abbrev ex(α:Nat)(β:AC):AC:=ec aw (a [n1,ef α v1 c2] be) β
abbrev ey(α:AI)(β:AI)(γ:AC):AC:=dT (d [α,β,aT,aQ] [0,1,2] 4) γ
abbrev ez(α:AI)(β:AI)(γ:AI):AC:=d [α,β,γ,aE,aD,n1,n0] [0,1] 3
abbrev eA(α:AC):AC:=dY (.block 1 [[4],[9],[],[8],[],[7],[],[0,6],[1]] (m [n2,n2] α [4] 3))
abbrev eC(α:AI)(β:AI)(γ:AI):AC:=d [α,β,γ,n0] [0] 3
abbrev eD(α:AI)(β:Opd)(γ:AC):AC:=es α (v false β) γ
abbrev eE(α:Nat)(β:Opd)(γ:Opd):AI:=q α .leq 3 β γ
abbrev eF(α:Nat)(β:Opd)(γ:Opd):AI:=r α .gtr 3 β γ
abbrev eG(α:Nat)(β:Nat):AC:=.ret [.cells α β]
abbrev eH(α:AC):AC:=ec aQ (es n1 c8 (.block 0 [[4],[],[7],[],[0,6],[1]] α)) dM
abbrev eI(α:AI)(β:AI)(γ:AI):AC:=d [α,β,γ,n0] [0] 2
abbrev eJ(α:Nat)(β:Opd):AI:=r α .gtr 3 v0 β
abbrev eK(α:Opd)(β:Opd)(γ:Opd):AI:=p [aj,aj,aj] [(0,1,α),(1,1,β),(2,1,γ)]
abbrev eL(α:AT)(β:Opd)(γ:Opd):AI:=p [aj,α,aj] [(0,1,β),(1,1,γ),(2,1,v0)]
abbrev eM(α:AI)(β:AI)(γ:AI):AC:=d [α,β,γ] [0] 2
abbrev eN(α:AI)(β:Nat):AC:=d [α,g β [v0],n0] [0] 2
abbrev eO(α:Nat)(β:Nat)(γ:Opd):AI:=q α .eql β v0 γ
abbrev eP(α:Nat)(β:Opd)(γ:Opd):AI:=g α [β,γ,v0]
abbrev eQ(α:AC):AC:=dU n0 aN α
abbrev eT(α:Opd)(β:Opd):AI:=e .geq 3 α β
abbrev eU(α:Opd)(β:Opd):AI:=e .sub 3 α β
abbrev eW(α:AI)(β:AI)(γ:AC):AC:=dT (d [α,n2,β,n2] [] 1) γ
abbrev eX(α:AC)(β:AC):AC:=dR (dT α β)
abbrev eY(α:Nat)(β:Opd)(γ:Opd):AI:=e .neq α β γ
abbrev eZ(α:AC):AC:=.seq α ay
abbrev fa(α:AI)(β:AC):AC:=ec α (es n2 bI β) a5
abbrev fb(α:AC):AC:=a [cB] (eg α)
abbrev fc(α:Nat):AI:=K α false v0
abbrev fd(α:Opd):AI:=C 3 24 α v0
abbrev fe(α:Nat)(β:Nat)(γ:Opd):AI:=r α .lss β v0 γ
abbrev ff(α:Opd):AI:=e .gtr 3 v0 α
abbrev fg(α:Nat)(β:Opd):AI:=r α .lss 3 v0 β
abbrev fh(α:Opd)(β:Opd):AC:=d [bE,i 2 α v0,aw,b β] [0,1] 3
abbrev fi(α:Opd)(β:Opd):AI:=p [aj,aj,aj] [(1,1,α),(2,1,β)]
abbrev fj(α:Nat)(β:AI):AC:=eA (a [n7,n6,n2,s α v6 v2,β,I v9 [v0]] cc)
abbrev fm(α:Nat)(β:Opd)(γ:AI):AC:=eC (c α β) aC γ
abbrev fo(α:AC):AC:=dS az α
abbrev fp(α:AC)(β:AC):AC:=dU n1 bb (dT α β)
abbrev fq(α:AI)(β:Nat)(γ:Nat):AC:=dT (d [α,i β v2 v0] [] 1) (eG 1 γ)
abbrev fs(α:AC):AC:=dU n1 bb α
abbrev ft(α:AI)(β:AC)(γ:AC):AC:=dU n1 α (dT β γ)
abbrev fu(α:AC):AC:=a [aQ] α
abbrev fw(α:Nat)(β:Opd):AI:=q α .geq 3 v0 β
abbrev fy(α:AI)(β:Nat)(γ:Nat):AC:=eg (eI α n3 (C β γ v0 v3))
abbrev fz(α:AT)(β:Opd):AI:=A 1 1 [α] [(0,β)]
abbrev fA(α:Nat)(β:AT):AI:=S (.upd 91) [v0,.c (.int .u64 α),.c β]
abbrev fC(α:Nat):AC:=d [n2,l v2,c α v0,aC,n0] [0] 3
abbrev fD(α:AC):AC:=.seq α aM
abbrev fE(α:Nat)(β:Nat):AC:=.ret [.v α,.v β]
abbrev fG(α:Nat)(β:Nat):AI:=q α .eql β v2 v0
abbrev fH(α:AC):AC:=dT α ao
abbrev fJ(α:Nat):AI:=J α false v0
abbrev fK(α:AC)(β:AC):AC:=.seq α β
abbrev fO(α:Nat)(β:Nat):AI:=ep α (.c (.func (.func β) #[] #[]))
abbrev fP:List (List Nat):=[[4],[5],[],[],[0],[1]]
abbrev fQ:List (List Nat):=[[0],[10],[],[9],[],[8],[4],[],[1,7]]
abbrev fR:List (List Nat):=[[0],[9],[],[8],[4],[],[1,7]]
abbrev fS:List (List Nat):=[[0],[],[8],[4],[],[1,7]]
abbrev fT:List (List Nat):=[[6],[10],[50],[49],[48],[9],[47],[46],[45],[],[37],[36],[35],[34],[33],[32],[31],[30],[29],[28],[26,27],[25],[24],[23],[22],[21],[8],[20],[19],[18],[],[17],[],[16],[],[14,5],[4],[2],[0],[1,15]]
abbrev fW:List (List Nat):=[[1],[5],[7],[4],[0,6],[]]
abbrev fX:List (List Nat):=[[2],[],[1],[0]]
abbrev fY:List (List Nat):=[[4],[5],[6],[10],[],[],[9],[8],[],[],[2],[0],[1]]
abbrev fZ:List (List Nat):=[[3],[10],[],[9],[],[8],[7],[],[2],[1],[0]]
abbrev ga:List (List Nat):=[[3],[9],[],[8],[7],[],[2],[1],[0]]
abbrev gc:List (List Nat):=[[3],[],[8],[7],[],[2],[1],[0]]
abbrev gd:List (List Nat):=[[8],[11],[31],[30],[10],[29],[28],[27],[],[26],[],[25],[],[22],[7],[15],[6],[5],[4],[2],[0],[1,13,18,24]]
abbrev gf:List (List Nat):=[[3],[14],[33],[32],[13],[31],[30],[29],[],[28],[],[27],[24],[22,11,23],[21,10,26],[9],[8],[4],[0],[1,17],[2,18],[19]]
abbrev gg:List (List Nat):=[[3],[15],[],[14],[13],[5],[12],[11],[10],[],[9],[],[8],[],[2],[0,7]]
abbrev gi:List (List Nat):=[[5],[20],[],[19],[18],[15,7,17],[14],[13],[16],[12],[],[11],[9],[4],[0,8],[1,10]]
abbrev gj:List (List Nat):=[[10],[26],[25],[9],[24],[23],[22],[21],[],[20],[14,7,15],[6],[3],[0],[1,19],[2]]
abbrev gk:List (List Nat):=[[6],[],[4],[0],[1],[2]]
abbrev gn:List (List Nat):=[[29],[],[28],[26,7,27],[25],[24],[23],[],[22],[21],[5],[19],[4],[3],[2],[1],[0]]
abbrev gq:List (List Nat):=[[4],[8],[],[7],[],[0,6],[1]]
end K
section
open K
def z7:AC:=m [bh] (.seq aO (.seq (.block 1 [[41],[40],[],[39],[37],[32],[30,9,31],[29,8,33],[25,7,27],[21],[18],[6],[5],[0,19,38],[1,22],[2]] (m [s 9 v13 v1,j 9 v0,cR,i 9 v0 v1] (.seq (a [b2,aC,ef 9 v0 bB,n0,w 0 1 v3,bx,eO 2 3 bC,a2] (dR (.pre [] 10 dO))) (d [n17,j 9 v7,eh 7 v18] [1] 2)) [] 11)) aH)) [0] 3
def Fz:AC:=.loop [[40],[],[39],[37],[32],[30,9,31],[29,8,33],[25,7,27],[21],[18],[6],[5],[0,19,38],[1,22],[2]] z7
def ac3:AFn:=⟨3,[],a [n v2,cB] (.seq (dT (d [g 4 [],aV] [0] 2) aM) (.seq (dT (eM n3 (g 5 [v3]) aV) (dR dr)) (.seq (d [n5,e .rem 5 v5 (.c (.int .u8 24)),F .i64 v0,ej aA v0,n0] [0] 3) (.seq (ez n0 (g 6 [v0]) n0) (.seq (a [n0,aN] aM) (.seq (dT (d [n2,p [aj,aj,aj,a1,aS,aS,aj,aj,ak] [(1,1,aK),(4,1,bB),(7,1,aA),(6,1,aA)],g 7 [v3,v0],D (.fld 1) [v0],aN] [0] 4) aM) (.seq (eD n9 v9 (.block 0 [[],[39],[37],[32],[30,9,31],[29,8,33],[25,7,27],[21],[18],[6],[5],[0,19,38],[1,22],[2]] (.pre [0] 0 Fz))) (.seq (d [n5,g 8 [v5,bB],n0,aE,aD,bW,i 5 v0 v2,n1] [0,1] 4) (.seq (d [n7,j 8 v12,j 8 v13,dl,p [aj,aj,aj,a1,aS,aS,aj,aj,ak] [(1,1,aA),(4,1,bB),(7,1,aA),(8,1,v0)],eh 7 v11,o [aj,aj,ak],ba] [0] 6) (.seq (d [n8,g 9 [v8,bB,am],n0,aE,aD,a3,i 8 v0 v2,n1] [0,1] 4) (eg (d [n4,ef 28 v4 av,n0,u 0 v2,b1,bm,n0,w 0 2 v7,bx,eO 2 3 aA,a2,n0,w 0 1 v10,bx,eO 2 28 av,a2,n0,N 0 8 v12,N 1 8 v28,q 2 .eql 24 v1 v0,a2,n0] [0] 16))))))))))))⟩
def ac4:AFn:=⟨0,[],a [cB] (.seq (dT (d [g 10 [],aV] [0] 2) aM) (.seq (d [g 6 [bo],n0,aE,aD,n1,n0] [0,1] 3) (.seq (d [g 11 [bo],n0,aE,aD,n1,n0] [0,1] 3) (.seq (fD (d [n2,eY 28 v2 av,n0,z 0 v1,r 1 .neq 28 v0 av,bz,n0,z 0 v7,r 1 .eql 27 v0 aP,bz,n0,z 0 v8,r 1 .eql 44 v0 aP,bz] [0] 10)) (.seq (d [n4,p [aj,aj,aj,a1,aS,aS,aj,aj,ak] [(1,1,aK),(4,1,.c (.string ⟨#[97]⟩)),(7,1,aA)],g 7 [v5,v0],o [aj,aj,ak],ba] [0] 3) (.seq (ez n3 (g 12 [v3,.c (.string ⟨#[97]⟩),aA,av]) n0) (a [n5,n1,g 13 [v5,v1],n0] (.seq (d [p [aj,aj,a1,aj,aj,a1] [(0,1,am)],A 6 1 [aj,aj,a1,aj,aj,a1] [(0,v0)],g 14 [v0],n0,aE,aD,n1,n0] [0,1] 5) (eg (d [c 1 v5,aC,db,n0,u 0 v6,b1,bm,n0,u 0 v8,b1,bm,n0,u 0 v17,E 1 15 [v0],E 2 16 [v0],fJ 3,eO 4 3 am,bD,n0,u 0 v15,b1,bm,n0,u 0 v19,dE,eO 2 3 am,a2,n0] [0] 22))))))))))⟩
def ac5:AFn:=⟨1,[],a [cB] (a [n1,g 17 [v1,.c (.int .i64 24)],n0] ao)⟩
def ac6:AFn:=⟨1,[],a [b aP,aQ] (fK (ez n2 (g 11 [v2]) n0) (dT bv (eZ (d [n2,G .mk [],p [ar,aI] [(0,1,v3),(1,1,v0)],p [ar,aI,ak] [(0,2,v0)],bG,n0,aQ] [0,1] 5))))⟩
def ac7:AFn:=⟨2,[],a [n v1,o [aj,aj,ak]] (.seq (d [cv,aC,p [aj,aj,ak] [(0,1,v0)],o [aj,aj,ak],ba] [0] 4) (.seq (.block 0 [[5],[4],[3],[0],[1]] (m [n3,ef 27 v3 aP,n0] (.cond v0 (d [c 1 v1,i 1 v0 aF] [] 1) (.post (.seq (eC (j 9 v3) (g 18 [v0]) aV) (.cond v0 (d [c 1 v2,i 1 v0 am] [] 1) (.post (.seq (fm 1 v4 cO) (.cond v0 (.post (.regD [n6,l v6,aL,cu,j 9 v8,eh 19 v1,n0,aE,aD,c 2 v10,bn,c 1 v11,bn] [0,1,3,7,0,31,63,127,127,255,767,2047,4095]) [] 9) (.post (.seq (fm 1 v5 (ef 3 v0 bo)) (.cond v0 (d [n7,l v7,bF,i 1 v0 c2] [] 2) (m [o [ar,aI]] (.seq (dT (.post (.regD [n8,l v8,aL,cu,j 9 v10,eh 20 v1,n0,aE,aD,i 2 v7 v1,c 1 v12,bQ] [0,1,3,7,0,31,63,127,127,255,1023,2047]) [] 8) (dT (d [c 1 v5,aC,aN] [0] 3) (dR (.pre [] 6 b0)))) (.seq (.post (.regD [n9,n9,l v9,bF,aC,g 21 [v0],n13,l v13,aL,cu,A 2 1 [ar,aI] [(0,v0)],C 2 16 v4 v0,l v18,bF,bn] [0,0,2,6,14,30,0,64,192,448,960,2046,4095,8191,16383]) [] 11) (dT (d [n9,j 2 v1,l v10,aL,cS] [] 3) (dT (d [c 3 v8,aC] [0] 2) (dR (d [n10,l v10,bF,i 1 v0 c2] [] 2)))))) [] 3))) [] 1))) [] 1))) [] 1)) [] 1)) (fq bu 3 3)))⟩
def ac8:AFn:=⟨2,[],el bW (dU n2 (ef 27 v2 aP) (dT (eM (p [aS,aj,aj,aj,aj] []) (i 5 v3 v0) (b aF)) (dX 3 5 0))) (.seq (d [n3,l v3,aL,cu,g 22 [v0],n8,ep 23 v8,aE,aD,i 5 v9 v1,n0] [0] 7) (dX 3 5 0))⟩
def ac9:AFn:=⟨3,[],el a3 (dU n2 (ef 27 v2 aP) (dT (eM aY (i 8 v3 v0) (b aF)) (dX 3 8 0))) (.seq (d [n3,l v3,aL,cu,n7,n8,g 24 [v0,v7,v8],n0,aE,aD,cj,a3,i 8 v0 v3,n2,n1] [0,1] 8) (eW dA (i 8 v5 v0) (dX 4 8 1)))⟩
def afx:AFn:=⟨1,[],a [b aP,aQ] (.seq (d [n2,g 32 [v2],n0,aE,aD,bH,cS,n1] [0,1] 4) (dT (fs (a [n2,b aP,n3] (fE 0 3))) (dT (d [j 2 v1,p [ak,aI] [(0,2,v0)],bG,n0,aQ] [0,1] 4) ay)))⟩
def afw:AFn:=⟨4,[],a [aw,aQ] (.seq bc (.seq (d [n3,l v3,aL,cu,n7,n8,n9,g 33 [v0,v7,v8,v9],n0,aE,aD,bH,cS,n1] [1] 7) (.seq (a [n0,db] (.cond v0 (d [n5,l v5,aL,cu,n10,n11,g 34 [v0,v10,v11],n0] [0] 4) (.post az [1] 0))) (eZ (d [n7,g 37 [.c (.int .u64 3),v7],n9,n10,A 1 2 [aj] [(0,v9),(1,v10)],eh 36 v1,n3,ep 35 v3,aE,aD,n1,n0] [0,1] 6)))))⟩
def vj:AC:=m [aG] (dT au (dT (.block 1 [[7],[21],[],[20],[],[19],[],[17],[15,6,16],[14,5,18],[13,4],[3],[2],[0,11]] (m [s 1 v8 v2,aC,n0] (.reg [n3,n11,n0,G (.look 3 (.pointer none) false) [v11,v0],l v0,dA,A 8 1 [aj,aj,aj,a1,a1,aj,aj,aj] [(0,v0)],C 8 56 v7 v0,n0]) [0] 7)) ax)) [1,0] 5
def Ac:AC:=.loop [[7],[20],[],[19],[],[17],[15,6,16],[14,5,18],[13,4],[3],[2],[0,11]] vj
def afv:AFn:=⟨1,[],a [aw,aQ] (.seq (d [n2,g 46 [v2],n0,aE,aD,cj,n2,n1,n0] [0,1,2] 4) (dT (a [n0,aV] bJ) (ec aw (eD n3 v3 (.block 0 [[7],[],[19],[],[17],[15,6,16],[14,5,18],[13,4],[3],[2],[0,11]] (.pre [2,0] 0 Ac))) cL)))⟩
def afu:AFn:=⟨1,[],ec bH (ft (ef 44 v1 aP) (d [bE,i 2 v2 v0] [] 1) (eG 1 2)) (dT (d [n2,l v2,aL,cu,i 2 v4 v0] [] 3) (eG 1 2))⟩
def vi:AC:=.post (.seq (a [n1,n4,v false v4,eo v2 v0] cT) (.seq (.block 1 [[4],[9],[8],[],[5,6],[],[],[0,7],[1]] (.post (.seq (.regD [n6,n3,s 9 v6 v3,c 8 v0,aC,aT,ff (.c (.int .i64 40)),n0,z 0 v11,z 1 v9,P 2 9 v1 v0,y 3 4 v0,x 4 v0,K 5 true v0,z 6 v17,z 7 v15,P 8 9 v1 v0,y 9 5 v0,x 10 v0,K 11 true v0,r 12 .add 3 v6 v0,eJ 13 (.c (.int .i64 100)),k v14 aq v0,n0,z 0 v26,z 1 v24,P 2 9 v1 v0,y 3 1 v0,x 4 v0,r 5 .eql 3 v0 aK,z 6 v0,u 0 v33,u 1 v31,O 2 9 v1 v0,w 3 7 v0,t 4 v0,q 5 .gtr 3 v0 (.c (.int .i64 40)),V 13 v6 v0 al,k v14 aq v0] [0,0,3,7,15,31,63,127,255,255,1023,2047,4095,8191,255,255,49407,114943,246015,508159,1048575,2097151,4194303,8388607,16777215,16777215,67108863,134217727,268435455,536870911,1073741823,2147483647,2147483647,8589934591,17179869183,34359738367,68719476735,137438953471,274877906943]) aM) [37] 35)) (ek n4 v4))) [1,0] 6
def Dc:AC:=.loop fP vi
def aft:AFn:=⟨2,[],ec cB (fu (.block 0 [[4],[],[],[0],[1]] (.pre [1,0] 0 Dc))) (fH (d [n3,v false v3,n5,e .leq 3 v0 v5,n0] [0] 2))⟩
def Ab:AFn:=⟨1,[],a [bG,cB] (.seq (fD (d [cv,aC,bP,n0,y 0 0 v4,bq,eJ 2 (.c (.int .i64 2147483647)),aX,n0,y 0 2 v8,bq,r 2 .neq 3 v0 av,z 3 v0,w 0 2 v12,bx,q 2 .neq 3 v0 am,V 7 v3 v0 al,k v8 aq v0] [0] 16)) (.seq (d [j 9 v2,g 49 [v0],cR,i 9 v0 v1] [0] 3) (.seq (d [c 4 v3,aC,c 4 v2,bQ] [] 3) (.seq (fm 4 v3 (g 50 [v0])) (.seq (.seq (d [c 1 v4,aC] [0] 2) (.block 0 [[2],[4],[32],[30],[3],[22],[],[1],[0]] (m [cO,n0] (.cond v0 (.post (dT (.post (.regD [c 6 v6,aC,c 7 v8,aC,c 6 v7,cF,c 7 v8,bn] [0,1,0,4,3,19,63,127]) [] 6) (d [n2,n2,w 2 6 v6,ck,w 4 7 v8,t 5 v0,E 6 51 [v2,v0],dG,n0,w 0 7 v12,bx,eE 2 v0 a4,a2,n0] [0] 10)) [6,0] 1) (m [ef 3 v1 aA,n0] (.cond v0 (.post (.seq (.post (.regD [c 6 v7,aC,c 7 v9,aC,c 8 v11,aC,c 3 v13,aC,c 6 v12,i 1 v0 v7,c 7 v13,i 1 v0 v6,c 8 v14,i 1 v0 v5,c 3 v15,dD] [0,1,0,4,0,16,0,64,3,259,783,1807,3903,7999,16383,32767]) [] 12) (d [n3,n3,w 3 6 v7,t 4 v0,w 5 7 v9,t 6 v0,E 7 51 [v2,v0],k v8 v0 al,n0,w 0 7 v13,bx,eE 2 v0 a4,a2,n0,w 0 8 v17,bx,fJ 2,w 3 7 v20,t 4 v0,fG 5 3,k v6 v0 al,n0] [0] 17)) [7,0] 1) (m [ef 3 v2 aW,n0] (.cond v0 (.post (dT (.post (.regD [c 6 v8,aC,c 7 v10,aC,c 3 v12,aC,c 6 v11,i 1 v0 v5,c 7 v12,dD,c 3 v13,cF] [0,1,0,4,0,16,3,67,207,463,1023,2047]) [] 9) (d [n4,n4,w 4 6 v8,t 5 v0,w 6 7 v10,t 7 v0,E 8 51 [v2,v0],k v9 v0 al,n0] [0] 6)) [8,0] 1) (m [ef 3 v3 bo,n0] (.cond v0 (.post (fm 4 v9 (ef 9 v0 (.c aS))) [9,0] 1) (m [ef 3 v4 aK,n0] (.cond v0 (.post (fK (.post (.regD [c 6 v10,aC,c 7 v12,aC,c 6 v11,cF,c 7 v12,bn] [0,1,0,4,3,19,63,127]) [] 6) (d [n6,n6,w 6 7 v10,t 7 v0,fw 8 am,k v9 v0 al,n0,w 0 7 v14,bx,eE 2 v0 aJ,a2,n0,w 0 6 v18,bx,fw 2 av,a2,n0,w 0 6 v22,bx,w 2 7 v24,ck,eE 4 v2 v0,bD,n0] [0] 18)) [10,0] 1) (m [ef 3 v5 dd,n0] (dS (.post (dT (d [c 5 v11,aC,c 5 v10,bQ] [] 3) (d [n7,n7,w 7 5 v11,t 8 v0,E 9 50 [v0],k v10 v0 al,n0,w 0 5 v15,bx,w 2 4 v17,ck,q 4 .neq 9 v2 v0,bD,n0] [0] 10)) [11,0] 1) (m [ef 3 v6 bC,n0] (fo (a [cB] ao)) [11,8] 1)) [0,1] 3)) [0,1] 3)) [0,1] 3)) [0,1] 3)) [0,1] 3)) [0,1] 3))) (eg (d [n1,n1,N 1 9 v7,N 2 9 v5,E 3 52 [v1,v0],cM,n0] [0] 4)))))))⟩
def vh:AC:=et aO (.block 1 [[31],[30],[],[29],[27,8,28],[23],[21,7,22],[5],[4],[3],[2],[0],[1]] (m [n1,n1] (d [n4,n1,j 2 v10,c 4 v10,aC,c 6 v12,aC,n6,ej v0 v6,eP 24 v5 v3,n0,aE,aD,cj,s 8 v14 v11,i 8 v0 v3] [0,3,4,5,6,7,8,9,10] 11) [] 9))
def Da:AC:=.loop [[30],[],[29],[27,8,28],[23],[21,7,22],[5],[4],[3],[2],[0],[1]] vh
def afs:AFn:=⟨2,[],a [bG,n v2,aw,aQ] (.seq (ee (.regD [j 2 v3,g 22 [v0],c 4 v4,aC,c 6 v6,aC,c 7 v8,aC,g 53 [v6,v4,v2,v0],n0,aE,aD,n1,n0] [0,1,0,4,0,16,0,64,255,511,1023,1023,2047,8191]) 11 bA) (fK (fm 7 v4 (R 8 8 [an,an,an,an,an,an,an,an] v0 v0)) (dT (es n0 aT (.block 0 [[],[29],[27,8,28],[23],[21,7,22],[5],[4],[3],[2],[0],[1]] (.pre [0] 0 Da))) cz)))⟩
def qK:AC:=m [bh] (.seq aO (dT (.block 1 [[48],[47],[],[46],[40],[35],[33,10,34],[9],[21],[19,8,20],[18,7,32],[17,6,38,45],[5],[4],[3],[2],[0],[1]] (m [s 9 v11 v1,j 9 v0,o [aj,an,an,an,an,an,an,an,an],i 9 v0 v1] (.reg [c 1 v10,aC,c 0 v2,aC,c 1 v4,dA,S (.upd 3) [v4,v2,v0]]) [] 9)) aH)) [0] 3
def vX:AC:=.loop [[47],[],[46],[40],[35],[33,10,34],[9],[21],[19,8,20],[18,7,32],[17,6,38,45],[5],[4],[3],[2],[0],[1]] qK
def afr:AFn:=⟨2,[],a [bG,n v2,o [ar,aI],aQ] (.seq (d [j 2 v3,j 9 v3,eh 54 v1,n0,aE,aD,cj,n2,n1,n0] [0,1,2] 6) (.seq (eQ (eW (j 2 v7) (i 2 v6 v0) (dX 5 2 1))) (.seq (.post (.regD [c 0 v7,aC,g 55 [v0],c 1 v10,aC,p [ar,aI] [(0,1,v2),(1,1,v0)],o [ar,aI],i 2 v0 v1] [0,1,3,0,8,31,0,127]) [0] 7) (.seq (dT (d [aL,aC,n5,ep 13 v5,n0] [0] 3) (eQ (eW (j 2 v10) (i 2 v9 v0) (dX 8 2 1)))) (.seq (dT (eM n6 (v false v6) (ff av)) (dR (d [c 1 v11,aC,g 56 [v0],c 1 v6,bQ] [] 4))) (dT (eD n7 v7 (.block 0 [[],[46],[40],[35],[33,10,34],[9],[21],[19,8,20],[18,7,32],[17,6,38,45],[5],[4],[3],[2],[0],[1]] (.pre [0] 0 vX))) (dT (eM (j 2 v5) (i 2 v12 v0) aQ) (dX 12 2 0))))))))⟩
def afq:AFn:=⟨1,[],ex 70 (fy (A 2 0 [ar,aI] []) 2 16)⟩
def afp:AFn:=⟨1,[],a [bG,bH] (dT (d [cv,aC,g 15 [v0],i 2 v3 v0] [] 3) (eG 0 2))⟩
def acn:AFn:=⟨2,[],a [bG,bW,aQ] (.seq (d [j 2 v2,n5,g 57 [v0,v5,av,av],n0,aE,aD,cr,cg,n1] [0,1] 5) (.seq (fs (dT (d [p [aS,aj,aj,aj,aj] [],n3,i 5 v5 v0,n3] [] 1) (dX 4 5 2))) (.seq (.post (.regD [n7,cv,aL,aC,c 0 v4,bL,aC,c 2 v7,dg,g 58 [v0],c 0 v14,dg,j 3 v12,g 60 [v0],eh 59 v2,p [aS,aj,aj,aj,aj] [(0,1,v21),(1,1,v11),(2,1,v8),(3,1,v5),(4,1,v0)],i 5 v19 v0,aQ] [0,0,2,6,0,16,48,0,128,384,0,1024,0,4992,16256,32767,65535,131071]) [0] 16) (dX 5 5 0))))⟩
def afo:AFn:=⟨3,[],a [bG,a3,cB,aQ] (.seq (d [j 2 v3,g 22 [v0],n7,n8,g 61 [v0,v7,v8],n0,aE,aD,cj,n2,n1,n0] [0,1,2] 6) (.seq (.seq (d [n0,aN,n0,z 0 v2,Y 1 .not v0,bz] [0] 4) (eX (d [aY,n2,i 8 v7 v0,cB,n3] [0] 2) (.ret [.cells 7 8,.v 0,.v 2]))) (.seq (d [c 1 v7,aC,n5,G (.look 3 (.agg #[.int .u8 0,.int .u8 0,.int .u8 0,.int .u8 0,.int .u8 0,.int .u8 0,.int .u8 0,.int .u8 0]) false) [v0,v5],i 8 v9 v0,b aq,aQ] [0,1] 5) (ed 8 8))))⟩
def afl:AFn:=⟨1,[],a [bH,aQ] (.seq (d [n2,g 88 [v2],n0,aE,aD,dp,bn,n1] [0,1] 4) (dT (d [dg,p [ak,aI] [(0,1,v0)],n3,dq,n3] [] 2) (dX 3 2 1)))⟩
def afk:AFn:=⟨4,[],a [bG,bH,aQ] (.seq (.seq (d [n4,g 89 [v4],aV,n0,z 0 v7,fg 1 am,bz,n0,z 0 v10,cV,bz,n0,z 0 v14,fg 1 av,bz,n0,z 0 v17,z 1 v17,eF 2 v1 v0,aX] [0] 15) (eX (eM bE (i 2 v3 v0) (b am)) bZ)) (.seq (dT (eI (j 2 v3) n6 (ep 90 v6)) (eQ (eW bE dq (dX 4 2 1)))) (.seq (d [j 2 v5,c 0 v6,dg,n10,n11,n12,p [aj,aj] [(0,1,v11),(1,1,v12)],p [aj,aj,ar] [(0,2,v0)],g 91 [v4,v2,v12,v0],i 2 v10 v0,aQ] [0] 7) (dX 5 2 0))))⟩
def afj:AFn:=⟨3,[],el bG (.seq (d [n3,eo v3 am,n0,z 0 v4,cV,bz,n0,z 0 v8,fg 1 av,bz,n0,z 0 v11,z 1 v11,eF 2 v1 v0,aX] [0] 11) (dR (a [b am] ao))) (eg (d [n5,j 2 v2,g 45 [v0],eh 92 v7,n0] [0] 3))⟩
def ab8:AFn:=⟨2,[],el aw (dU n3 (eY 28 v3 av) (a [n4,aw,n5] (fE 0 5))) (es n3 n3 (fE 4 0))⟩
def vg:AC:=dY (.block 1 fQ (m [s 1 v7 v2,aC,n0] (.reg [n3,n0,cm,eh 93 v4,n0]) [0] 4))
def CZ:AC:=.loop fR vg
def afi:AFn:=⟨2,[],fa aw (.block 0 fS (.pre [3,0] 0 CZ))⟩
def afh:AFn:=⟨2,[],a [aw] (eg (d [n1,g 93 [c2,v1],n3,G .s2b [v3],eh 87 v1,n0] [0] 3))⟩
def afg:AFn:=⟨1,[],ec (b aP) (d [n1,g 94 [v1],p [ak,a1] [(0,1,v0)],bG,n0] [0] 3) ao⟩
def CY:AC:=m [eo v3 dP] (.seq (fo (.pre [1,2] 5 b0)) (.seq (.block 1 [[2],[3],[4],[10],[],[],[],[9],[],[],[],[],[0]] (m [n4,n4] (a [n9,g 95 [v9,bw],n0,aE,aD,n1,n0] (.seq (eQ (a [n1,bM,n2] a9)) (a [n2,s 1 v2 av,aC,cm,n0] (.seq (a [n11,ef 3 v11 b9,n0,u 0 v1,q 1 .gtr 91 v0 bw,bm] (dR (.pre [12,13] 16 b0))) (a [n14,n4,D (.bit .and 91) [v4,.c (.int .u64 127)],n16,e .mul 3 bC v16,D (.bit .shl 91) [v1,v0],D (.bit .or 91) [v17,v0],n0] (dU n8 (e .lss 91 v8 (.c (.int .u64 128))) (.seq (a [n9,ef 91 v9 (.c aB),n0,u 0 v21,q 1 .gtr 3 v0 av,bm] (dR (.pre [21,22] 25 b0))) (es n5 n5 (fE 6 0))))))))) [17,18,1] 16)) ci)) [1,2,3,0] 9
def HY:AC:=.loop [[2],[3],[4],[9],[],[],[],[],[0]] CY
def aff:AFn:=⟨1,[],a [bM,aQ] (ec bM (fu (.block 0 [[2],[3],[],[],[],[],[0]] (.pre [3,2,1,0] 0 HY))) (a [n6,g 96 [v6],bM,n1] bU))⟩
def afe:AFn:=⟨1,[],eQ (dV (.c (.tuple #[])) az)⟩
def afd:AFn:=⟨0,[],a [b (.c aI)] (a [G .mk [],S (.upd 91) [v0,bw,.c (.func (.func 97) #[] #[])],fA 2 (.func (.func 102) #[] #[]),fA 3 (.func (.func 104) #[] #[]),fA 4 (.func (.func 105) #[] #[]),S (.upd 91) [v0,dv,.c (.func (.func 107) #[] #[])],n0,n0] ao)⟩
def afc:AFn:=⟨1,[],ec aQ (.seq (d [n1,eY 113 v1 aP,n0,u 0 v2,U 1 v0,w 2 1 v0,ck,u 4 v0,z 0 v7,L 1 v0,y 2 0 v0,df,fc 4,eJ 5 av,Z 11 v6 aq v0,k v12 v0 al] [0] 14) (dR (a [b aK] ao))) bf⟩
def vf:AC:=dY (.block 1 [[3],[13],[],[12],[],[11],[10],[8],[2],[1],[0]] (m [s 3 v5 v2,bu,aR,ba] dI [0] 6))
def CX:AC:=.loop [[3],[12],[],[11],[10],[8],[2],[1],[0]] vf
def afb:AFn:=⟨1,[],el bG (eC (j 2 v1) (g 109 [v0]) (B .neg v0)) (dT (ey (j 2 v2) (g 110 [v0]) (.block 0 [[3],[],[11],[10],[8],[2],[1],[0]] (.pre [3,0] 0 CX))) a5)⟩
def ve:AC:=m [eo v5 v7] (.seq (fo (.pre [1,2,3,4] 7 b0)) (.seq (.block 1 [[2],[3],[4],[6],[7],[15],[],[],[],[],[],[14],[],[13],[],[],[11,5],[],[],[],[0,12]] (m [n6,s 6 v15 v6,j 6 v0,o [aj,aj,a1,aj,aj,a1],n9,i 6 v0 v1] (a [n14,bL,aC,G (.look 3 (.pointer none) false) [v16,v0],n0] (a [c 0 v3,aC] (.block 2 [[2],[3],[4],[6],[7],[24],[23],[22,10],[21],[20],[9],[18],[17],[15],[],[],[],[],[],[14,16,8],[],[13],[],[],[11,5,19],[],[],[],[0,12]] (m [cO,n0] (.cond v0 (.post (.seq (a [n3,eY 132 v3 aP,n0,W 0 6 v7,T 1 111 [v0],Y 2 .not v0,aX] cb) (a [n25,c 1 v11,aC,c 1 v13,aC,c 3 v15,aC,c 4 v17,aC,c 2 v19,aC,c 5 v21,aC,n31,n32,p [aj,aj,aj,a1,a1,aj,aj,aj] [(0,1,v8),(1,1,v6),(2,1,v4),(3,1,v2),(4,1,v0),(5,1,v31),(6,1,v32),(7,1,aZ)],bG,S (.upd 3) [v39,v12,v0]] (.reg [n32,c 1 v25,aC,co,C 1 8 v35 v0,n0]))) [33,34,35,0,37] 23) (m [ef 3 v1 aA,n0] (.cond v0 (.post (.seq (.seq (.regD [n4,ef 132 v4 aP,n0,z 0 v5,L 1 v0,y 2 7 v0,df,r 4 .geq 3 v0 av,da,n0,z 0 v11,L 1 v0,y 2 5 v0,df,z 4 v26,r 5 .neq 3 v1 v0,k v6 aq v0,n0,W 0 6 v21,z 1 v40,z 2 v20,L 3 v0,y 4 6 v0,x 5 v0,P 6 6 v4 v0,W 7 6 v0,T 8 112 [v7,v0],Y 9 .not v0,k v10 aq v0] [0,1,3,7,15,31,63,127,255,511,1023,2047,4095,8191,1023,32767,65535,131071,262143,262143,262143,1310719,3407871,7602175,16515071,33292287,67108863,134217727,268435455]) cb) (.regD [n29,n29,n41,c 4 v32,aC,l v31,c 7 v0,i 1 v0 v45,l v33,bF,dD] [0,0,0,0,8,5,37,101,255,511,1023])) [42,43,44,46] 31) (m [ef 3 v2 aW,n0] (dS (dT (a [j 6 v8,p [aj,aj,a1,aj,aj,a1] [(0,1,aW)],eY 55 v1 v0] cb) (ek n19 v19)) (a [b (.c aI),aw,cB] a0)) [16,17,18,0] 5)) [0,1,2,18,3] 5)) [0,1,2,3,4] 6)))) [0,1,2,3,4] 13)) (.reg [ej v11 am,n0]))) [1,2,3,4,5,0] 13
def zY:AC:=.loop [[2],[3],[4],[6],[7],[14],[],[13],[],[],[11,5],[],[],[],[0,12]] ve
def afa:AFn:=⟨1,[],a [b (.c aI),aw,cB] (a [G .mk [],n0] (a [aw] (ec aQ (eD n6 v6 (.block 0 [[2],[3],[4],[6],[],[13],[],[],[11,5],[],[],[],[0,12]] (.pre [7,6,5,3,2,0] 0 zY))) (a [n8,n3,n8,n3,b aq] (.ret [.v 9,.v 4,.v 0])))))⟩
def ae':AFn:=⟨1,[],ei cR (d [cv,aC,c 1 v3,aC,c 2 v5,aC,p [aj,aj,aj,a1,aS,aS,aj,aj,ak] [(0,1,v4),(1,1,v2),(2,1,v0)],i 9 v7 v0] [] 7) (eG 0 9)⟩
def ae9:AFn:=⟨1,[],a [cB] (.seq (fD (d [n1,v true v1,dj,n0,z 0 v3,K 1 true v0,dx,aX,n0,z 0 v7,ad 1 .byte [v0,av],fe 2 5 (.c (.int .u8 97)),aX,n0,z 0 v11,ad 1 .byte [v0,av],r 2 .gtr 5 v0 (.c (.int .u8 122)),aX] [0] 14)) (fH (eI n2 (g 116 [v2,.c (.string ⟨#[97,98,99,100,101,102,103,104,105,106,107,108,109,110,111,112,113,114,115,116,117,118,119,120,121,122,48,49,50,51,52,53,54,55,56,57]⟩)]) (ef 9 v0 (.c aS)))))⟩
def ae8:AFn:=⟨2,[],fb (d [n1,eT v1 av,n0,u 0 v3,fw 1 am,bm,n0,u 0 v5,eE 1 v0 aJ,bm,n0,u 0 v9,u 1 v9,q 2 .sub 3 aJ v0,eE 3 v2 v0,cM,n0] [0] 12)⟩
def vd:AC:=dY (.block 1 [[4],[18],[],[17],[],[16],[15],[13],[],[3],[2],[0],[1]] (m [n2,s 8 v5 v2,dA,a3,n5,i 8 v0 v1] (fD (.regD [dA,c 8 v12,aC,n8,s 8 v0 v8,dA,eY 24 v4 v0] [0,0,2,0,14,30,63])) [10] 9))
def zX:AC:=.loop [[4],[17],[],[16],[15],[13],[],[3],[2],[0],[1]] vd
def ae7:AFn:=⟨2,[],a [bG,n v2,cB] (.seq (fD (d [c 8 v2,aC,aT,c 8 v4,aC,aT,eY 3 v3 v0] [0] 7)) (.seq (ey (c 8 v3) aC (.block 0 [[4],[],[16],[15],[13],[],[3],[2],[0],[1]] (.pre [4,0] 0 zX))) (.seq (d [c 0 v7,aC,c 0 v8,aC,ef 3 v2 v0,n0,w 0 1 v12,bx,w 2 1 v13,ck,dy,bD,n0,w 0 2 v18,bx,w 2 2 v19,ck,dy,bD,n0,w 0 3 v24,bx,w 2 3 v25,ck,fG 4 4,bD,n0,w 0 4 v30,bx,w 2 4 v31,ck,fG 4 9,bD,n0,w 0 5 v36,bx,w 2 5 v37,ck,fG 4 9,bD,n0,w 0 6 v42,bx,w 2 6 v43,ck,dy,bD,n0,w 0 7 v48,bx,w 2 7 v49,ck,dy,bD,n0] [0] 47) ao)))⟩
def ab2:AFn:=⟨4,[],es bG aw (.seq (d [j 2 v2,n5,n6,n7,g 57 [v0,v5,v6,v7],n0,aE,aD,cr,cg,n1] [0,1] 5) (.seq (d [bF,dg,n9,n10,g 117 [v0,v9,v10],n4,n0,n4] [0] 3) a9))⟩
def ae6:AFn:=⟨2,[],a [bG,n v2,aw,aw,aQ] (a [aw] (a [aQ] (.seq (.seq (d [c 1 v5,aC] [0] 2) (.block 0 [[4],[5],[6],[7],[8],[10],[],[],[],[],[],[3],[2],[0],[1]] (m [ef 3 v0 aA,n0] (.cond v0 (.seq (d [c 0 v8,aC,c 4 v9,aC,c 6 v11,aC,c 8 v13,aC,g 118 [v6,v4,v2,v0],aE,aD,cj,n2,n1,n0] [0,1,2] 12) a0) (a [ef 3 v1 aW,n0] (.cond v0 (.post (d [c 0 v9,aC,c 4 v10,aC,c 6 v12,aC,c 7 v14,aC,g 119 [v6,v4,v2,v0],n0,aE,aD,n1,n0] [0,1] 11) [1,0] 2) (m [ef 3 v2 aK,n0] (.cond v0 (.post (d [c 0 v10,aC,c 4 v11,aC,c 7 v13,aC,c 6 v15,aC,g 12 [v6,v4,v2,v0],n0,aE,aD,n1,n0] [0,1] 11) [1,0] 2) (m [ef 3 v3 dd,n0] (dS (.post (d [c 0 v11,aC,c 4 v12,aC,c 5 v14,aC,eP 120 v4 v2,n0,aE,aD,n1,n0] [0,1] 9) [1,0] 2) (.post (d [c 0 v11,aC,c 4 v12,aC,eh 121 v2,n0,aE,aD,n1,n0] [0,1] 7) [1,0] 2)) [0,1] 3)) [0,1] 3)))) [9,8,7,0,1] 4))) (a [n3,n4,aw,n4,n5] (.ret [.v 0,.v 4,.v 5])))))⟩
def ae5:AFn:=⟨1,[],ec (b aP) (dU n1 (ef 44 v1 aP) (a [b aP] ao)) (dT (d [n2,l v2,cu,bH,i 2 v0 v1] [0] 3) (a [n0] ao))⟩
def ab1:AFn:=⟨4,[],a [bG,cr,aQ] (.seq bp (.seq (.block 0 [[9],[10],[18,11],[],[8],[4],[0],[1,15],[2],[3]] (m [n1,B .not v1,n0] (dS (dT (eM (p [aj,aj,ar] []) (i 3 v5 v0) (b b9)) bY) (.seq (d [j 3 v1,n9,n10,g 123 [v0,v9,v10],aV,n0] [0] 3) (eX (eM (p [aj,aj,ar] []) (i 3 v6 v0) (b aA)) (dX 6 3 0)))) [4] 2)) (dT (eM (j 3 v1) (i 3 v5 v0) aQ) bY)))⟩
def ae4:AFn:=⟨1,[],el bG (eC cv aC (g 124 [v0])) ao⟩
def vb:AC:=.post (.seq (a [n1,n5,eo v1 v5] bk) (.seq (.block 3 [[6],[53],[],[10,51],[50],[49],[48],[9,52],[47],[46],[45],[],[37],[36],[35],[34],[33],[32],[31],[30],[29],[28],[26,27],[25],[24],[23],[22],[21],[8],[20],[19],[18],[],[17],[],[16],[],[14,5],[4],[2],[0],[1,15]] (.post (.seq (a [n36,n2,s 1 v36 v2,aC,aV,n0,w 0 0 v41,bx,u 2 v7,O 3 1 v1 v0,t 4 v0,eO 5 3 am,k v6 v0 al] (dS (ek n11 v11) (.post az [11] 0))) (.reg [n47,n13,s 1 v47 v13,i 1 v0 aq])) [1] 12)) (ek n3 v3))) [1,0] 5
def CW:AC:=.loop fT vb
def uZ:AC:=m [aG] (.seq au (.seq (.block 1 [[6],[18],[],[17],[],[16],[],[14,5],[4],[2],[0],[1,15]] (m [s 3 v10 v2,bu,aR,ba] (a [c 0 v11,aC,aT,n0] (.seq (a [c 2 v3,aC,bP,n0,y 0 1 v6,bq,z 2 v5,y 3 2 v9,x 4 v0,z 5 v8,ad 6 .min [v1,v0],r 7 .sub 3 v4 v0,r 8 .leq 3 v6 v0,k v9 aq v0] (.cond v0 (d [n13,c 2 v16,aC,c 1 v18,aC,bi,D .min [v18,v0],n0] [0] 6) (.post az [13] 0))) (.seq (a [c 1 v17,aC,dj] (dS (.reg [aQ]) du)) (a [c 2 v21,aC,X v0 av,n0] (.block 2 fT (.pre [28,0] 0 CW)))))) [0] 29)) ax)) [1,0] 5
def CV:AC:=.loop [[6],[17],[],[16],[],[14,5],[4],[2],[0],[1,15]] uZ
def ae3:AFn:=⟨2,[],ei aQ (d [cv,aC,aT,R 1 1 [a1] v0 v0,n0] [0] 4) (ec aQ (eD n5 v5 (.block 0 [[6],[],[16],[],[14,5],[4],[2],[0],[1,15]] (.pre [2,0] 0 CV))) a5)⟩
def ae2:AFn:=⟨1,[],ei aw (d [c 2 v1,dg,g 126 [v0],g 125 [v0],n0] [0] 4) ao⟩
def ab0:AFn:=⟨3,[],a [bG,aQ,cB,aQ] (.seq (d [j 2 v3,n6,n7,g 57 [v0,v6,v7,am],n0,aE,aD,cr,cg,n1] [0,1] 5) (dT (fs (a [n2,aQ,cB,n4] (.ret [.v 1,.v 0,.v 4]))) (.seq (d [c 2 v1,dg,n11,ep 127 v11,n0,aE,aD,n1,n0] [0,1] 5) (a [n1,n0,n1,n0,aQ] a0))))⟩
def aeR:AFn:=⟨2,[],a [aw] (eg (d [n1,n2,bI,cm,eh 93 v3,n5,C 1 1 v0 v5,n0] [0] 4))⟩
def aeQ:AFn:=⟨1,[],el dp (.seq (d [n2,eo v2 av,n0,z 0 v3,cV,bz] [0] 4) (eX (eM (p [ak] []) (i 1 v3 v0) (b am)) cn)) (.seq (d [n3,R 1 8 [aj] v3 v3,p [ak] [(0,1,v0)],i 1 v4 v0,aQ] [0] 3) cn)⟩
def uY:AC:=m [aG] (.seq au (.seq (.block 1 [[2],[10],[],[9],[],[8],[7],[],[0,6]] (m [n2,s 1 v5 v2,aC,n4,n0] (a [n0,e .geq 5 v0 (.c (.int .u8 97)),n0,u 0 v1,q 1 .leq 5 v0 (.c (.int .u8 122)),bm,n0] (a [n0,aV,n0,u 0 v9,eO 1 3 av,u 2 v0,z 0 v8,fe 1 5 (.c (.int .u8 48)),Z 5 v2 aq v0,u 6 v0,z 0 v12,r 1 .gtr 5 v0 (.c (.int .u8 57)),Z 9 v2 aq v0,k v10 v0 al] aM)) [19] 18)) ax)) [1,0] 5
def CU:AC:=.loop [[2],[9],[],[8],[7],[],[0,6]] uY
def aeP:AFn:=⟨1,[],a [cB] (.seq (a [n1,G .s2b [v1],aT,aQ] (.block 0 [[2],[],[8],[7],[],[0,6]] (.pre [3,0] 0 CU))) (eg (d [n5,eY 9 v5 (.c aS),n0,u 0 v6,J 1 true v0,eE 2 v0 a4,a2,n0] [0] 5)))⟩
def aeO:AFn:=⟨2,[],a [bG,aQ] (.seq (d [c 1 v1,aC,n5,G (.look 9 (.agg #[.int .i64 0,.int .i64 0,.pointer none]) true) [v0,v5],n0,aE,aD,cr,cg,n1] [1] 6) (dT (.block 0 [[4],[13,6],[],[2],[0],[1,10]] (m [n0,n0] (dS (a [b dP] ao) (fK (d [c 1 v2,aC,G .mln [v0],eT v0 (.c (.int .i64 32)),n0] [0] 4) c0)) [2] 1)) bf))⟩
def aeN:AFn:=⟨4,[],a [bG,n v2,n v5,bH] (fK (fm 1 v3 (g 164 [v0])) (fK (a [n0,ef 61 v0 (.c aI)] (dS (.reg [G .mk [],n0]) (.post az [1] 0))) (dT (d [n0,n9,j 3 v4,S (.upd 9) [v1,v10,v0]] [] 1) (dT (d [j 1 v5,n1,p [ak,aI] [(0,1,v0),(1,1,v1)],dq] [] 2) (eG 3 2)))))⟩
def aeM:AFn:=⟨2,[],ec aQ (a [n1,n2,e .gtr 3 v1 v2] de) bf⟩
def qG:AC:=.post (fK (a [n0,e .geq 91 v0 (.c (.int .u64 128))] (fo (.pre [1,2] 3 b0))) (dT (.block 1 [[5],[9],[1,8],[],[7],[4],[0,6],[]] (d [n2,n1,F .u8 v1,D (.bit .or 5) [v0,.c (.int .u8 128)],dL,C 1 1 v5 v0,n0] [0] 4)) (.reg [n2,D (.bit .shr 91) [v2,.c (.int .u64 7)],n0]))) [0,1] 5
def zW:AC:=.loop fW qG
def aeL:AFn:=⟨2,[],a [aw] (a [n1,g 94 [v1],n0] (dT (.block 0 fW (.pre [3,0] 0 zW)) (eg (d [n1,n0,F .u8 v0,dL,C 1 1 v3 v0,n0] [0] 3))))⟩
def aeK:AFn:=⟨1,[],ex 47 (fy (A 1 0 [an] []) 1 1)⟩
def aeJ:AFn:=⟨2,[],a [aw,aQ] (.seq (.seq (d [n2,ef 113 v2 aP,n0,z 0 v3,L 1 v0,y 2 1 v0,df,ct,n0,z 0 v9,z 1 v9,L 2 v0,y 3 0 v0,x 4 v0,fc 5,ae 6 .u64 v0,r 7 .gtr 91 v6 v0,k v8 aq v0] [0] 15) (dR (a [n3,g 96 [v3],aw,n1] bU))) (.seq (d [n3,l v3,aL,aC,n7,n7,G .slx [v0,v7,v7],n0] [0] 4) (.seq (d [n4,n4,l v4,aL,aC,n8,Q 1 v0 (some v8) none,l v8,aL,bn] [] 6) cL)))⟩
def uX:AC:=m [b8] (.seq (fo (.pre [1] 4 b0)) (.seq (.block 1 [[5],[9],[25],[],[],[24],[],[23],[],[19],[17,8,18],[11,6,14],[],[4],[3],[2],[0],[1]] (.post (dT (.post (.regD [j 2 v13,n10,j 1 v13,g 101 [v0],eP 100 v2 v12,n0,aE,aD,cj,i 2 v20 v2,n0] [0,0,0,4,15,31,63,63,63,127,1023]) [0,2,3,4,5,6] 7) (eQ (a [j 2 v20,n2,i 2 v19 v0,n2] (dX 19 2 2)))) [8,1] 7)) a8)) [1,2,0] 7
def CT:AC:=.loop [[5],[9],[24],[],[23],[],[19],[17,8,18],[11,6,14],[],[4],[3],[2],[0],[1]] uX
def aeI:AFn:=⟨2,[],a [bG,n v2,bH,aQ] (.seq (eN (j 1 v2) 98) (.seq (.seq (d [j 2 v4,n1,ep 23 v1,n0,aE,aD,bW,i 5 v0 v2,n1] [1] 5) (eQ (eW (j 2 v6) dq (dX 4 2 1)))) (ec aQ (dT (d [j 1 v6,g 99 [v0],aQ] [0,1] 3) (.block 0 [[5],[],[23],[],[19],[17,8,18],[11,6,14],[],[4],[3],[2],[0],[1]] (.pre [6,2,0] 0 CT))) (dT (eM (j 2 v10) (i 2 v9 v0) aQ) (dX 9 2 0)))))⟩
def aeH:AFn:=⟨1,[],ei (b (.c aS)) (d [cv,aC,g 165 [v0],n0,aE,aD,n1,n0] [0,1] 5) (dT (d [n0,g 42 [v0]] [] 1) (a [n1,G .str [v1],n0] ao))⟩
def aeG:AFn:=⟨1,[],ei aQ (d [cv,aC,ep 166 aJ,n0,aE,aD,n1,n0] [0,1] 5) (dT (d [n0,g 42 [v0]] [] 1) (a [n1,n1] (.ret [.v 1])))⟩
def Q7:AFn:=⟨3,[],a [bG,n v3,bH,aw,aQ] (.seq (d [j 2 v4,n7,c 0 v4,aC,c 1 v6,aC,g 57 [v4,v11,v2,v0],n0,aE,aD,cr,cg,n1] [0,1] 9) (.seq bT (.seq (d [c 0 v7,dg,j 3 v8,aU,eh 167 v2,n0,aE,aD,dp,bn,n1] [0,1] 8) (.seq (fs (dT (fh v9 aA) (ed 10 2))) (.seq (d [c 2 v4,dg,j 3 v11,eh 168 v1,n0,aE,aD,cj,o [ar],cF,n2,n1] [0,1,2] 8) (fK (fs (dT (fh v13 aA) (ed 14 2))) (dT (d [j 1 v1,c 2 v9,bQ] [] 2) (.seq (d [j 1 v5,n4,ep 169 v4,n0,aE,aD,cj,i 1 v10 v2,n1,n0] [0,1] 5) (.seq (d [j 2 v16,j 1 v8,n20,j 3 v12,g 91 [v2,v1,v21,v0],n5,n4,i 2 v18 v0,n5,n4] [] 4) (ed 14 2))))))))))⟩
def Q6:AFn:=⟨1,[],a [bG,aR] (dT (.post (.regD [j 1 v1,g 99 [v0],j 1 v3,g 99 [v0],n2,n0] [0,1,0,7,15,31]) [0,2] 4) (.seq (d [n1,n0,j 1 v3,g 99 [v0],eL aj v3 v2,i 3 v5 v0] [] 3) (eG 2 3)))⟩
def Q5:AFn:=⟨2,[],a [bG,n v2,bH,aQ] (dT b6 (ee (.regD [j 2 v5,n2,n1,j 1 v5,g 99 [v0],g 103 [v2,v4,v3,v0],n0,aE,aD,cj,i 2 v12 v2,n1,n0] [0,0,0,0,8,31,63,127,127,127,255,1535,4095]) 7 (dT (d [j 2 v6,n1,dq,n1] [] 1) dn)))⟩
def Ji:AFn:=⟨4,[],a [bG,bH,aw,aQ] (.seq (d [j 2 v3,n6,n7,n8,g 57 [v0,v6,v7,v8],n0,aE,aD,cr,cg,n1] [0,1] 5) (.seq bT (.seq (d [c 2 v1,dg,n11,n12,g 170 [v0,v11,v12],n0,aE,aD,cj,o [ar],cF,n2,n1] [0,1,2] 7) (fK (fs (dT (fh v10 aA) (ed 11 2))) (dT (d [j 1 v1,c 2 v6,bQ] [] 2) (.seq (d [c 0 v10,dg,n5,ep 169 v5,n0,aE,aD,cj,dp,cF,n2,n1] [0,1,2] 7) (.seq (d [j 2 v13,j 1 v1,n17,j 3 v10,g 91 [v2,v1,v18,v0],n6,n5,i 2 v16 v0,n6,n5] [] 4) (.ret [.cells 12 2,.v 2,.v 1]))))))))⟩
def Q4:AFn:=⟨2,[],a [bG,n v2,bH,aQ] (dT b6 (ee (.regD [j 2 v5,n2,n1,j 1 v5,g 99 [v0],g 33 [v2,v4,v3,v0],aE,aD,i 2 v9 v1,n0] [0,0,0,0,8,31,63,63,255,511]) 6 dn))⟩
def Q3:AFn:=⟨2,[],a [bG,n v2,bH,aQ] (dT (eN (j 1 v2) 98) (ee (.regD [j 2 v4,n1,j 1 v4,g 98 [v0],eP 106 v2 v3,aE,aD,i 2 v8 v1,n0] [0,0,0,4,15,31,31,127,255]) 6 bZ))⟩
def Jh:AFn:=⟨3,[],a [bG,bH,aQ] (.seq bp (.seq (.block 0 [[7],[8],[19,9],[],[6],[3],[0],[1,16],[2]] (m [n1,B .not v1,n0] (dS (dT (eM bE dq (b b9)) (dX 5 2 0)) (dT (eI n8 (g 89 [v8]) aV) (eX (eM bE (i 2 v6 v0) (b am)) (dX 6 2 0)))) [4] 2)) (.seq (dT (eI (j 2 v5) n9 (ep 90 v9)) (eQ (eW bE (i 2 v7 v0) (dX 6 2 1)))) (.seq (.post (.regD [c 0 v7,dg,j 3 v5,g 60 [v0],eh 167 v2,n0,aE,aD,dp,bn,n1] [0,1,0,4,15,31,63,63,0,383,1023]) [0,1] 8) (dT (fs (dT (d [bE,n3,i 2 v10 v0,n3] [] 1) (dX 9 2 2))) (dT (d [c 0 v6,bL,i 1 v0 av] [] 2) (.seq (d [j 2 v10,j 1 v2,n15,j 3 v8,g 91 [v2,v1,v16,v0],i 2 v13 v0,aQ] [0] 5) (dX 10 2 0))))))))⟩
def Q2:AFn:=⟨2,[],a [bG,n v2,bH,aQ] (ee (.regD [j 2 v3,j 1 v3,g 98 [v0],eh 108 v2,n0,aE,aD,cj,i 2 v10 v2,n1,n0] [0,0,2,7,15,31,31,31,63,383,1023]) 7 (dT (d [j 2 v4,n1,i 2 v3 v0,n1] [] 1) (dX 2 2 0)))⟩
def Jg:AFn:=⟨2,[],a [bG,bH,aw,aQ] (.seq (d [c 1 v3,aC,n7,G (.look 9 (.agg #[.int .i64 0,.int .i64 0,.pointer none]) true) [v0,v7],n0,aE,aD,cr,cg,n1] [0,1] 6) (.seq (ft (B .not v1) (fh v6 b9) (ed 7 2)) (.seq (.post (.regD [c 0 v6,dg,j 3 v3,g 60 [v0],eh 169 v2,n0,aE,aD,cj,dp,cF,n2,n1] [0,1,0,4,15,31,63,63,63,0,639,1791,4095]) [0,1,2] 9) (fK (fs (dT (d [bE,n3,i 2 v10 v0,aw,n4] [0] 2) (.ret [.cells 10 2,.v 0,.v 3]))) (dT (fm 1 v10 (g 164 [v0])) (a [n0,n13,S (.del 9) [v0,v13]] (.seq (d [j 1 v2,n1,p [ak,aI] [(0,1,v0),(1,1,v1)],n6,i 2 v12 v0,n6,aQ] [0] 3) (.ret [.cells 11 2,.v 5,.v 0]))))))))⟩
def sE:AC:=et aO (.block 1 [[12],[11],[],[10],[9],[7,4],[3],[2],[1],[0]] (m [dC,aC,n0] (d [n7,n0,I v7 [v0]] [] 1) [] 2))
def xY:AC:=.loop [[11],[],[10],[9],[7,4],[3],[2],[1],[0]] sE
def Q0:AFn:=⟨1,[],a [bG,aQ] (a [o [aj],i 1 v0 av] (a [H 171 [] [v2,v0],n0] (dT (ey (j 2 v3) (g 16 [v0]) (.block 0 [[],[10],[9],[7,4],[3],[2],[1],[0]] (.pre [0] 0 xY))) (a [f v4,n0] ao))))⟩
def QZ:AFn:=⟨1,[],a [bG,aw] (fH (eC cv dg (g 173 [v0])))⟩
def QY:AFn:=⟨1,[],a [bG,cB] (.seq (.block 0 fX (.post (.seq (d [c 1 v1,aC,bP,n0,y 0 3 v4,bq,b7,aX,n0,y 0 4 v8,bq,b7,aX,n0] [0] 11) (dS (a [cB] ao) (dT (eN (j 6 v2) 174) (dR (eg (d [c 3 v3,aC,dk,n0,w 0 4 v6,bx,eO 2 3 av,a2,n0] [0] 7)))))) [2] 2)) (eg (d [c 2 v2,aC,n0,y 0 4 v4,bq,r 2 .eql 3 v0 av,aX,n0] [0] 6)))⟩
def QX:AFn:=⟨3,[],ei aw (d [j 1 v1,n4,n5,g 170 [v0,v4,v5],n0,aE,aD,cj,o [ar],cF,n2,n1] [2] 6) a5⟩
def sD:AC:=m [eo v3 v5] (.seq (fo (.pre [2,3] 5 b0)) (.seq (.block 1 [[19],[20],[21],[106],[],[],[],[105],[],[104],[],[],[102],[99],[97,14,98],[95,17,101],[85],[16],[83,84],[77],[75,15,76],[65],[63,64],[62,13,89],[51],[42],[40,12,41],[31],[10],[9],[8],[0,30,33,53,67,80,90],[1,37,57,71,91],[2,58,72,92],[3,44,59,73,103]] (m [n4,s 8 v31 v4,dA,a3,n7,i 8 v0 v1] (a [n31,l v31,aL,cu,n35,n36,n10,ej v36 v10,eP 61 v1 v36,n0,aE,aD,cj,n2,n1,n0] (.seq (a [n1,B .not v1,n0,z 0 v40,L 1 v0,y 2 0 v0,W 3 2 v0,z 4 v7,T 5 191 [v1,v0],r 6 .neq 3 v0 am,k v7 aq v0] (dS (.post (.seq (.regD [n21,s 1 v21 av,aC,n23,Q 1 v23 (some am) none,n1,n0] [0,1,3,0,8,7,63]) (.reg [n26,n53,n27,ej v53 v27,n2,eK v0 am v2,aU,fd v29,n0])) [4,0,5] 7) (.post az [21,23,11] 0))) (.reg [n25,n2,j 8 v20,p [aj,an,an,an,an,an,an,an,an] [(0,1,v3),(1,8,v0)],A 9 1 [aj,an,an,an,an,an,an,an,an] [(0,v0)],C 9 16 v28 v0,n0]))) [4,0,5] 27)) ci)) [1,2,3,0] 9
def xX:AC:=.loop [[19],[20],[21],[105],[],[104],[],[],[102],[99],[97,14,98],[95,17,101],[85],[16],[83,84],[77],[75,15,76],[65],[63,64],[62,13,89],[51],[42],[40,12,41],[31],[10],[9],[8],[0,30,33,53,67,80,90],[1,37,57,71,91],[2,58,72,92],[3,44,59,73,103]] sD
def sC:AC:=m [aG] (.seq (fo (.pre [1] 3 (.exit 2))) (.seq (.block 3 [[27],[168],[],[167],[],[166],[164],[158,14],[157,21,161,165],[20],[155],[],[104],[],[],[102],[99],[97,98],[95,17,101],[85],[16],[83,84],[77],[75,15,76],[65],[63,64],[62,13,89],[51],[42],[40,12,41],[31],[10],[9],[8],[0,30,33,53,67,80,90],[1,37,57,71,91,159],[2,58,72,92],[3,44,59,73,103]] (m [s 3 v7 v2,bu,aR,ba] (.reg [n4,aL,aC,c 1 v2,aC,c 2 v4,aC,A 1 3 [aj] [(0,v4),(1,v2),(2,v0)],eh 36 v11,n0]) [0] 11)) ax)) [1,0] 5
def xW:AC:=.loop [[27],[167],[],[166],[164],[158,14],[157,21,161,165],[20],[155],[],[104],[],[],[102],[99],[97,98],[95,17,101],[85],[16],[83,84],[77],[75,15,76],[65],[63,64],[62,13,89],[51],[42],[40,12,41],[31],[10],[9],[8],[0,30,33,53,67,80,90],[1,37,57,71,91,159],[2,58,72,92],[3,44,59,73,103]] sC
def QW:AFn:=⟨4,[],a [aw,aw,aQ] (.seq (dU n3 (ef 44 v3 aP) (a [aw,aw,b aF] a0)) (.seq (.seq (d [n4,l v4,aL,cu,n8,ep 23 v8,n0,aE,aD,bW,i 5 v0 v2,n1] [1] 7) a7) (.seq (.seq (d [n9,v false v9,dk,n0,z 0 v11,fc 1,dx,aX] [0] 6) (dR (a [aw,aw,b am] a0))) (.seq (d [n7,l v7,aL,cu,n11,n12,n13,v false v13,g 185 [v1,v12,v13,v0],n0,aE,aD,n1,n0] [0,1] 7) (.seq a7 (.seq (.seq (d [n10,l v10,aL,cu,n14,n15,n16,v false v16,g 186 [v1,v15,v16,v0],n0] [0] 5) a7) (.seq (d [n12,g 187 [v12],n0,aE,aD,cl,cS,n1] [0,1] 4) (.seq (fs (a [n2,aw,aw,n4] (.ret [.v 1,.v 0,.v 4]))) (.seq (.post (.regD [j 2 v1,n8,n16,n17,n18,g 189 [v16,v17,v18],eP 188 v1 v9,n0,aE,aD,cj,cl,n3,cS,n1] [0,0,0,0,0,28,63,127,255,255,255,0,2559,7167,16383]) [1,3] 7) (.seq a7 (a [n2,g 190 [v2],n0] (a [aw] (a [aw] (.seq (a [n24,v false v24,aQ] (.block 0 [[20],[21],[],[104],[],[],[102],[99],[97,14,98],[95,17,101],[85],[16],[83,84],[77],[75,15,76],[65],[63,64],[62,13,89],[51],[42],[40,12,41],[31],[10],[9],[8],[0,30,33,53,67,80,90],[1,37,57,71,91],[2,58,72,92],[3,44,59,73,103]] (.pre [4,3,2,0] 0 xX))) (.seq (ez n1 (g 192 [v1]) n0) (.seq (d [n28,g 37 [bw,v28],n2,bI,co,eh 36 v2,n0] [0] 4) (.seq (a [n2,bI,aQ] (.block 2 [[27],[],[166],[164],[158,14],[157,21,161,165],[20],[155],[],[104],[],[],[102],[99],[97,98],[95,17,101],[85],[16],[83,84],[77],[75,15,76],[65],[63,64],[62,13,89],[51],[42],[40,12,41],[31],[10],[9],[8],[0,30,33,53,67,80,90],[1,37,57,71,91,159],[2,58,72,92],[3,44,59,73,103]] (.pre [2,0] 0 xW))) (.seq (d [n0,n4,ep 35 v4,n0,aE,aD,n1,n0] [0,1] 3) (a [n8,n1,n0,n8,n1,n0] (.ret [.v 8,.v 1,.v 0]))))))))))))))))))))⟩
def QV:AFn:=⟨4,[],el aw bc (.seq (d [n3,l v3,aL,cu,n7,n8,n9,g 103 [v0,v7,v8,v9],n0,aE,aD,cj,bH,i 2 v0 v3,n2,n1] [1] 8) (eZ (d [n5,g 37 [.c (.int .u64 2),v5],n7,n8,A 1 2 [aj] [(0,v7),(1,v8)],eh 36 v1,n3,ep 35 v3,aE,aD,n1,n0] [0,1] 6)))⟩
def QU:AFn:=⟨3,[],a [aw,aQ] (.seq bc (.seq (d [n3,l v3,aL,cu,n7,n8,g 106 [v0,v7,v8],n0,aE,aD,bH,cS,n1] [1] 7) (.seq (a [n0,db] (.cond v0 (d [n5,l v5,aL,cu,n9,ep 193 v9,n0] [0] 4) (.post az [1] 0))) (eZ (d [n7,g 37 [.c (.int .u64 4),v7],n9,G .s2b [v9],eh 87 v1,n3,ep 35 v3,aE,aD,n1,n0] [0,1] 6)))))⟩
def QT:AFn:=⟨2,[],el aw bc (.seq (d [n3,l v3,aL,cu,n7,ep 108 v7,n0,aE,aD,cj,bH,i 2 v0 v3,n2,n1] [1] 8) (eZ (d [n5,g 37 [dv,v5],n1,ep 35 v1,aE,aD,n1,n0] [0,1] 4)))⟩
def QS:AFn:=⟨3,[],ei cB (d [n3,eT v3 av,n0,u 0 v5,dz,bm,n0,u 0 v7,w 1 0 v6,w 2 0 v0,ck,eE 4 v3 v0,bD,n0,u 0 v14,w 1 0 v12,w 2 0 v0,ck,u 4 v17,q 5 .sub 3 v1 v0,eE 6 v5 v0,dG,n0] [0] 18) ao⟩
def QR:AFn:=⟨1,[],ec aQ b5 (fH (fC 7))⟩
def QQ:AFn:=⟨1,[],a [bG,b (.c ds)] (a [H 195 [] [v1],n0] ao)⟩
def sB:AC:=.post (.seq (a [n2,eY 139 v2 aP] bj) (.block 1 fY (.block 2 fY (m [n9,n3,l v3,aL,aL,aC,eo v13 v0,n0] (.cond v0 (d [n8,l v8,bR,aC,n0] [9,10,0] 3) (.post (.seq (.regD [n14,n8,l v8,aL,aL,aC,n12,l v12,aL,bL,aC,ej v4 v0,eT v23 v0,n0] [0,0,2,6,14,30,0,64,192,448,960,2046,4095,8191]) (dS (.reg [n18,l v18,b2,aC,n0]) (eZ (.regD [n18,l v18,aL,bF,aC,n28,ej v0 v28,n23,l v23,aL,aL,aC,eU v4 v0,n0,b aq] [0,1,3,7,15,0,63,0,128,384,896,1920,4095,8191,16383])))) [19,20,0] 13)) [0,1,2] 8)))) [0,1,2] 7
def xV:AC:=.loop [[4],[5],[6],[8],[],[],[2],[0],[1]] sB
def QP:AFn:=⟨2,[],a [bG,aQ,cB] (dT (dT (eM (c 0 v2) aC n0) (.block 0 [[4],[5],[8],[],[],[2],[0],[1]] (.pre [2,1,0] 0 xV))) (a [aQ,cB] ay))⟩
def QM:AFn:=⟨1,[],el aw dw (dT bA (eZ (ez n5 n2 (g 95 [v5,v2]))))⟩
def QL:AFn:=⟨2,[],el aQ dw (dT (.seq (d [n0,db,n0,u 0 v6,q 1 .lss 3 v0 av,u 2 v0,z 0 v5,z 1 v10,ae 2 .u64 v0,r 3 .gtr 91 v2 v0,Z 7 v4 aq v0,k v8 v0 al] [0] 10) (dR (a [n5,g 96 [v5],aQ,n1] bU))) (a [n2,F .i64 v2,n2,n0,n2] a9))⟩
def QK:AFn:=⟨2,[],es bG dp (dT (dT (d [j 1 v2,n5,ep 244 v5,aV] [0] 3) (eX (eM (p [ak] []) (i 1 v3 v0) (b aA)) cn)) (.seq (d [j 1 v3,n6,g 245 [v0,v6,am],i 1 v4 v0,aQ] [0] 3) cn))⟩
def QJ:AFn:=⟨2,[],a [bG,n v2,o [ar],aw,aQ] (.seq (dT (d [j 3 v3,aU,g 246 [v0],aV] [0] 4) bV) (.seq (d [c 0 v5,aC,c 0 v6,aC,eh 247 v2,n0,aE,aD,n1,n0] [0,1] 7) (.seq (d [n0,c 0 v6,aC,c 1 v8,aC,bi,eh 247 v5,n0,aE,aD,n1,n0] [0,1] 8) (.seq (a [n3,eY 139 v3 aP] (.cond v0 (.post (.seq (d [n4,g 248 [v4],n0,aE,aD,aR,cg,n1] [0,1] 4) (dT (d [bu,j 3 v12,eh 249 v1] [0] 3) (dS (.post (d [cv,aC,c 1 v3,aC,c 1 v16,aC,bi,c 2 v8,aC,eL aj v7 v2,n12,i 3 v22 v0,n12] [] 10) [2] 0) (.post az [7] 0)))) [0] 4) (.post az [4] 0))) (.seq (a [n2,eY 139 v2 aP] (dS (.post (dT dm (dT (d [j 3 v13,j 3 v1,eh 249 v1] [0] 3) (dS (.post (.seq (d [c 1 v14,aC,c 1 v3,aC,bi,c 1 v19,bQ] [] 6) (.reg [n2,n2])) [2] 0) (.post az [6] 0)))) [0] 4) du)) (.seq (d [n2,j 3 v12,n1,g 251 [v3,v0,v1],p [ar] [(0,1,v0)],n8,g 252 [v8],i 1 v15 v1,n0,aQ] [0,1] 5) (ed 13 1)))))))⟩
def sy:AC:=.post (.seq b3 (.seq (.block 3 [[8],[38],[37],[36],[35],[34],[33],[],[11,32],[31],[30],[10],[29],[28],[27],[],[26],[],[25],[],[22],[7],[15],[6],[5],[4],[2],[0],[1,13,18,24]] (m [c 0 v20,aC,n9,s 1 v0 v9,aC,dk] (.cond v0 (d [n11,n12,fi am v12,aU,fd v13,n0] [0] 3) (.post az [11] 0)) [0] 6)) (ek n8 v8))) [1,0] 10
def xU:AC:=.loop gd sy
def sx:AC:=m [aG] (.seq au (.seq (.block 1 [[8],[27],[],[26],[],[25],[],[22],[7],[15],[6],[5],[4],[2],[0],[1,13,18,24]] (m [s 3 v14 v2,bu,aR,ba] (a [bF,aC,n0] (.block 2 gd (.pre [6,0] 0 xU))) [0] 7)) ax)) [1,0] 5
def xT:AC:=.loop [[8],[26],[],[25],[],[22],[7],[15],[6],[5],[4],[2],[0],[1,13,18,24]] sx
def QI:AFn:=⟨2,[],a [bG,dp,aw,aQ] (.seq (dT (d [j 1 v3,n6,ep 244 v6,aV] [0] 3) (eX (d [p [ak] [],i 1 v4 v0,aw,b aA] [0,1] 3) (ed 5 1))) (.seq (d [j 1 v4,n7,g 245 [v0,v7,aZ],dp,bQ] [0] 3) (.seq (dT (d [aL,aC,fO 253 254] [0] 3) (eX (d [p [ak] [],i 1 v6 v0,aw,b aF] [0,1] 3) (ed 7 1))) (ec aw (eD n9 v9 (.block 0 [[8],[],[25],[],[22],[7],[15],[6],[5],[4],[2],[0],[1,13,18,24]] (.pre [2,0] 0 xT))) (dT (.post (.regD [j 1 v5,n1,g 255 [v1],i 1 v11 v1,n0,aQ] [0,0,2,7,15,31]) [0,1] 3) (ed 11 1))))))⟩
def QH:AFn:=⟨3,[],a [bG,o [ar],aw,aQ] (.seq (dT (d [n5,n6,g 256 [v5,v6],aV] [0] 2) bV) (.seq (dU n7 (ef 3 v7 av) (dT (d [j 1 v5,i 1 v5 v0,aw,aQ] [0,1] 3) (ed 6 1))) (.seq (d [c 0 v5,aC,n9,ep 247 v9,n0,aE,aD,n1,n0] [0,1] 5) (.seq (d [n0,n9,n10,ej v9 v10,eh 247 v1,n0,aE,aD,n1,n0] [0,1] 4) (.seq (d [n3,n0,eh 257 v3,p [ar] [(0,1,v0)],n3,g 252 [v3],i 1 v11 v1,n0,aQ] [0,1] 4) (ed 10 1))))))⟩
def QG:AFn:=⟨3,[],.seq (d [j 2 v1,n1,ep 172 v1,n0,aE,aD,n1,n0] [1] 4) (d [f v3,n1,ej v0 v1,i 1 v5 v0] [] 2)⟩
def QF:AFn:=⟨2,[],es bG aQ (.seq (d [j 2 v2,n5,ep 23 v5,n0,aE,aD,bW,i 5 v0 v2,n1] [0,1] 5) (.seq (d [j 5 v0,g 258 [v0],n3,n0,n3] [0] 2) a9))⟩
def sw:AC:=dY (.block 1 fZ (m [n2,s 1 v5 v2,aC,n4,n0] (a [n0,dk] (.cond v0 (d [n4,n5,fi am v5,aU,fd v6,n0] [0] 3) (.post az [4] 0))) [0] 4))
def xS:AC:=.loop ga sw
def QE:AFn:=⟨1,[],a [bG,aw] (ec aw (ey (c 0 v2) aC (.block 0 gc (.pre [3,0] 0 xS))) (a [n0,g 255 [v0],n0] ao))⟩
def QD:AFn:=⟨1,[],ei cB (d [c 5 v1,aC,n0,w 0 2 v3,bx,aa 2 .not v0,a2,n0] [0] 6) ao⟩
def su:AC:=.post (.seq b3 (.seq (.block 3 [[3],[40],[39],[38],[37],[36],[35],[],[14,34],[33],[32],[13],[31],[30],[29],[],[28],[],[27],[24],[22,11,23],[21,10,26],[9],[8],[4],[0],[1,17],[2,18],[19]] (m [j 2 v23,n8,ep 191 v8,cO] (dS (.reg [n9,eU v9 am,n0]) (.post az [9] 0)) [0] 4)) (ek n8 v8))) [1,0] 10
def xR:AC:=.loop gf su
def sr:AC:=m [aG] (.seq au (.seq (.block 1 [[3],[29],[],[28],[],[27],[24],[22,11,23],[21,10,26],[9],[8],[4],[0],[1,17],[2,18],[19]] (m [s 3 v7 v2,bu,aR,ba] (a [bF,aC,n0] (.block 2 gf (.pre [6,0] 0 xR))) [0] 7)) ax)) [1,0] 5
def xQ:AC:=.loop [[3],[28],[],[27],[24],[22,11,23],[21,10,26],[9],[8],[4],[0],[1,17],[2,18],[19]] sr
def Jf:AFn:=⟨4,[],es bG aQ (.seq (d [j 2 v2,n5,n6,n7,g 53 [v0,v5,v6,v7],n0,aE,aD,n1,n0] [0,1] 4) (dT (eQ (a [n1,aQ,n2] a9)) (dT (es n2 bI (.block 0 [[3],[],[27],[24],[22,11,23],[21,10,26],[9],[8],[4],[0],[1,17],[2,18],[19]] (.pre [11,0] 0 xQ))) cL)))⟩
def QC:AFn:=⟨4,[],ei aQ (d [j 2 v1,n4,n5,n6,g 185 [v0,v4,v5,v6],n0,aE,aD,n1,n0] [0,1] 4) (dT a6 (.seq (d [j 2 v4,n7,ep 172 v7,n0,aE,aD,n1,n0] [1] 4) (eg (d [n3,n0,j 2 v5,g 45 [v0],X av v0,ej v3 v0,eh 92 v7,n0] [0] 5))))⟩
def QB:AFn:=⟨1,[],a [cl,aQ] (.seq (d [n2,l v2,aL,cu,g 275 [v0],g 274 [v0],n0,aE,aD,cl,cS,n1] [0,1] 8) (.seq (fs (dT (d [j 2 v1,n3,dq,n3] [] 1) (dX 4 2 2))) (.seq (ee (.regD [j 2 v1,j 2 v2,g 277 [v0],eh 276 v2,n0,aE,aD,i 2 v7 v1,n0] [0,0,2,7,15,31,31,63,255]) 6 (eQ (eW (j 2 v3) (i 2 v7 v0) (dX 6 2 1)))) (ee (.regD [j 2 v3,n8,l v8,aL,cu,g 110 [v0],eh 278 v4,aE,aD,i 2 v14 v1,n0] [0,0,2,6,14,30,63,127,127,511,1023]) 8 bK))))⟩
def Aa:AC:=m [eo v2 aW] (.seq (fo (.pre [1,2] 4 dO)) (.seq (.block 2 [[6],[8],[41],[],[],[40],[],[39],[],[],[],[7],[],[3],[0],[1],[2]] (m [D (.ind 3) [v5,v3],n0] (a [n0,j 2 v12,n15,n16,I v1 [v0,v15,v16],n0,aE,aD,n1,n0] (a [n0] (dR (a [j 2 v16,n2,ep 276 v2,n0,aE,aD,cl,cS,n1] (dT (.regD [n6,cu,n2,n7,i 2 v20 v0,n2] [0,0,0,1,11,31]) (.ret [.v 7,.cells 20 2,.v 2])))))) [6,7] 5)) a8)) [1,2,0] 7
def Db:AC:=.loop [[6],[8],[40],[],[39],[],[],[],[7],[],[3],[0],[1],[2]] Aa
def Je:AFn:=⟨3,[],a [bG,aw,cl,aQ] (.seq (.block 0 [[6],[8],[],[7],[],[3],[0],[1],[2]] (.post (.seq (d [n5,eo v5 av,n0,z 0 v7,fg 1 av,bz,n0,z 0 v10,y 1 0 v8,x 2 v0,eF 3 v2 v0,ct,n0] [0] 9) (.cond v0 (dT (d [cq,aw,i 2 v4 v1,b am] [0,1] 3) (ew 4 2)) (.seq (d [n6,j 2 v4,g 279 [v0],e .gtr 3 v8 v0,n0] [0] 3) (dS (dT (d [cq,aw,i 2 v5 v1,bX] [0,1] 3) (ew 5 2)) (a [n7,ef 3 v7 av,n0] (eX (.post (.regD [j 2 v6,aw,i 2 v6 v1,aQ] [0,0,3,7]) [0,1] 3) (ew 6 2))))))) [5,3] 3)) (.seq (a [p [ds,ds,ds] [(0,1,.c (.func (.func 280) #[] #[])),(1,1,.c (.func (.func 281) #[] #[])),(2,1,.c (.func (.func 282) #[] #[]))],aQ] (.block 1 [[6],[8],[],[39],[],[],[],[7],[],[3],[0],[1],[2]] (.pre [2,3,0] 0 Db))) (dT (d [cq,aw,i 2 v9 v1,bX] [0,1] 3) (ew 9 2))))⟩
def FB:AFn:=⟨3,[],ec aQ (.seq (d [n1,l v1,aL,cu,n5,n6,eU v6 am,eP 61 v1 v6,n0,aE,aD,cj,n2,n1,n0] [0,1,2] 8) (.seq (d [n1,n1,u 1 v0,eO 2 28 av,a2] [0] 3) (dR (a [n3,ej v3 am,n0] ao)))) bf⟩
def sn:AC:=dZ bk (.block 3 [[3],[16],[],[15],[],[14],[13],[5],[12],[11],[10],[],[9],[],[8],[],[2],[0,7]] (m [n2,n2] (.reg [n1,c 2 v6,aC,n4,ej v0 v4,co,C 1 8 v5 v0,n0]) [0] 5))
def xP:AC:=.loop gg sn
def sk:AC:=dY (.block 1 [[3],[10],[],[9],[],[8],[],[2],[0,7]] (m [s 3 v7 v2,bu,aR,ba] (es bL aC (.block 2 gg (.pre [7,0] 0 xP))) [0] 8))
def xO:AC:=.loop [[3],[9],[],[8],[],[2],[0,7]] sk
def QA:AFn:=⟨1,[],a [aw] (fa aw (.block 0 [[3],[],[8],[],[2],[0,7]] (.pre [2,0] 0 xO)))⟩
def Qz:AFn:=⟨2,[],el bG (d [cv,dg,n5,ep 283 v5,n0] [0] 3) ao⟩
def sj:AC:=dY (.block 1 [[4],[13],[],[12],[],[11],[],[9],[3],[2],[0,7,10]] (m [s 3 v9 v2,bu,aR,ba] (.reg [n4,bu,eh 284 v5,n0]) [0] 5))
def xN:AC:=.loop [[4],[12],[],[11],[],[9],[3],[2],[0,7,10]] sj
def Qy:AFn:=⟨1,[],el aw (dT (eM n2 (g 246 [v2]) aV) bJ) (ec aw (eD n4 v4 (.block 0 [[4],[],[11],[],[9],[3],[2],[0,7,10]] (.pre [2,0] 0 xN))) cL)⟩
def Qx:AFn:=⟨2,[],ei aQ (d [j 2 v1,n4,ep 23 v4,n0,aE,aD,bW,i 5 v0 v2,n1] [0,1] 5) (dT (a [n1,bb] ce) (ee (.regD [c 2 v1,aC,j 5 v3,g 258 [v0],eU v2 v0,j 2 v9,g 45 [v0],eh 92 v2,n0] [0,1,0,4,15,0,44,127,255]) 8 ao))⟩
def Jd:AFn:=⟨2,[],fb (d [n1,ef 139 v1 aP,n0,z 0 v2,L 1 v0,y 2 3 v0,df,z 4 v7,T 5 196 [v1,v0],z 6 v0,u 0 v10,u 1 v10,U 2 v0,w 3 0 v0,N 4 3 v0,ah 5 v4 [v0],V 13 v6 v0 al,z 14 v0,u 0 v17,U 1 v0,w 2 4 v0,ck,u 4 v22,E 5 196 [v1,v0],V 21 v6 v0 al,k v22 aq v0,n0] [0] 24)⟩
def Qn:AFn:=⟨2,[],a [bG,cB] (fH (eI n3 (H 323 [] [v1]) (eP 322 v4 aq)))⟩
def si:AC:=.post (.seq (a [n0,c 2 v3,aC,c 1 v5,aC,bi,eo v5 v0] (fo (.pre [6] 7 (.exit 2)))) (dT (.block 3 [[33],[32],[31],[30],[29],[28],[10,27],[26],[25],[9],[24],[23],[22],[21],[],[20],[14,7,15],[6],[3],[0],[1,19],[2]] (d [n16,n6,s 1 v16 v6,aC,n23,ej v0 v23,s 1 v19 v9,bQ] [] 4)) (ek n6 v6))) [0] 8
def xM:AC:=.loop gj si
def sf:AC:=et aO (.block 1 [[22],[21],[],[20],[14,7,15],[6],[3],[0],[1,19],[2]] (m [s 3 v8 v1,bu,aR,ba] (a [bF,aC,n0] (.block 2 gj (.pre [0] 0 xM))) [] 6))
def xL:AC:=.loop [[21],[],[20],[14,7,15],[6],[3],[0],[1,19],[2]] sf
def Qm:AFn:=⟨3,[],a [bG,dp] (.seq (d [cv,aC,aT,R 1 8 [aj] v0 v0,n0] [0] 4) (dT (d [n0,c 0 v2,aC,G (.cpy 1) [v2,v0]] [] 3) (dT (eD n4 v4 (.block 0 [[],[20],[14,7,15],[6],[3],[0],[1,19],[2]] (.pre [0] 0 xL))) (dT (d [n2,p [ak] [(0,1,v2)],i 1 v4 v0] [] 1) (eG 3 1)))))⟩
def se:AC:=m [aG] (.seq au (.seq (.block 1 [[2],[8],[],[7],[],[6],[],[0,5]] (m [n2,s 3 v6 v2,bu,aR,n5,ba] (fD (.regD [bu,g 324 [v0],aV,n0,z 0 v8,eJ 1 av,z 2 v0,w 0 0 v6,bx,u 2 v17,u 3 v14,q 4 .sub 3 v0 am,O 5 3 v2 v0,N 6 3 v0,E 7 325 [v0],q 8 .lss 3 v6 v0,V 12 v9 v0 al,k v13 aq v0] [0,1,3,7,15,31,63,127,255,127,127,1151,3711,7807,15999,32767,65535,131071])) [21] 20)) ax)) [1,0] 5
def xK:AC:=.loop [[2],[7],[],[6],[],[0,5]] se
def Ql:AFn:=⟨1,[],ec cB (es n1 c8 (.block 0 [[2],[],[6],[],[0,5]] (.pre [2,0] 0 xK))) dr⟩
def Jc:AFn:=⟨2,[],a [b aP,b aP] (.seq (dU n2 (ef 139 v2 aP) (a [b aP,b aP] ay)) (.seq (.seq (d [n3,l v3,aL,bu,aR,ba] [0] 4) (.block 0 [[4],[5],[6],[15],[],[],[0,14,16],[1]] (.post (.seq (d [n5,aL,aC,e .leq 3 v7 v0,n0] [0] 3) (.cond v0 (.seq (d [n5,l v5,bR,aC,n9,ep 247 v9,n0,aE,aD,n1,n0] [0,1] 6) (ee (.regD [n1,n0,j 3 v3,n8,l v8,b2,aC,eP 251 v4 v3,n6,n0] [0,0,0,0,8,24,56,126,255,511]) 5 (fE 2 0))) (.seq (d [n6,cv,aC,c 1 v3,aC,bi,eT v11 v0,n0] [0] 6) (dR (.seq (d [n6,l v6,b2,aC,n10,ep 247 v10,n0,aE,aD,n1,n0] [0,1] 6) (ee (.regD [n8,l v8,bR,aC,j 3 v7,n5,g 251 [v1,v0,v5],n5,n0,n5] [0,1,3,7,0,0,63,0,127,511]) 5 bU)))))) [5,4] 2))) (.seq (d [n7,n6,l v6,aL,aL,aC,eU v11 v0,n0] [0] 5) (.seq (.post (.regD [n7,l v7,aL,aL,aC,n4,n11,l v11,aL,bF,aC,eL aj v4 v8,aR,ba] [0,1,3,7,15,0,0,64,192,448,960,2047,0,8191]) [0] 10) (.seq (.post (.regD [n9,n8,l v8,aL,bL,aC,n5,eU v0 v5,n13,l v13,aL,bF,aC,n10,ej v0 v10,eL aj v19 v5,aR,ba] [0,0,2,6,14,30,0,126,0,256,768,1792,3840,0,16128,32767,0,131071]) [0] 12) (dT (.post (.regD [n9,l v9,bR,aC,j 3 v4,g 251 [v1,v0,aP],j 3 v5,n15,l v15,b2,aC,eP 251 aP v3,n5,n0] [0,1,3,7,0,31,0,0,128,384,896,2047,4095,8191]) [0,5] 10) ay))))))⟩
def Jb:AFn:=⟨1,[],a [aR,b aP] (.seq (dT (d [n2,l v2,b2,aC,ef 139 v0 aP] [0] 4) (dR (ee (.regD [n3,l v3,aL,bu,n6,l v6,bR,aC,i 3 v8 v3,n0] [0,1,3,7,0,16,48,112,15,511]) 6 (dX 3 3 0)))) (.seq (d [n3,l v3,b2,aC,g 248 [v0],n0,aE,aD,aR,cg,n1] [0,1] 7) (ee (.regD [bu,n6,l v6,bR,aC,n9,l v9,aL,bu,n8,g 251 [v3,v0,v8],i 3 v12 v7,n0] [0,0,2,6,14,0,32,96,224,0,1022,2047,4095]) 8 bY)))⟩
def Qk:AFn:=⟨2,[],a [bG,n v2,cB] (eg (d [c 0 v2,aC,c 1 v4,aC,bi,c 0 v6,aC,ef 3 v2 v0,n0,w 0 2 v10,bx,w 2 1 v12,ck,q 4 .add 3 v2 v0,w 5 2 v14,t 6 v0,fG 7 3,k v8 v0 al,n0] [0] 17))⟩
def Ja:AFn:=⟨1,[],a [aR,b aP] (.seq (dT (d [n2,l v2,bR,aC,ef 139 v0 aP] [0] 4) (dR (ee (.regD [n3,l v3,aL,bu,n6,l v6,b2,aC,i 3 v8 v3,n0] [0,1,3,7,0,16,48,112,15,511]) 6 (dX 3 3 0)))) (.seq (d [n3,l v3,bR,aC,g 250 [v0],n0,aE,aD,aR,cg,n1] [0,1] 7) (ee (.regD [bu,n2,n6,l v6,aL,bu,n9,l v9,b2,aC,eP 251 v8 v3,i 3 v12 v7,n0] [0,0,0,4,12,28,0,64,192,448,1022,2047,4095]) 8 bY)))⟩
def Qj:AFn:=⟨3,[],a [n v1,b aP] (.seq (.block 0 gk (.post (.seq cI (.cond v0 (ee (.regD [n3,l v3,bR,aC,n6,l v6,aL,bu,n9,l v9,b2,aC,j 3 v11,n15,g 251 [v1,v0,v15],eP 327 v8 v5,n0] [0,1,3,7,0,16,48,112,0,256,768,1792,0,0,16128,32767,65535]) 12 ao) (dT cH (dR (ee (.regD [n4,j 3 v3,n7,l v7,bR,aC,eP 251 v8 v3,n11,l v11,aL,bu,n14,l v14,b2,aC,eP 327 v6 v3,n0] [0,0,0,4,12,28,63,0,128,384,896,0,2048,6144,14336,32767,65535]) 12 ao))))) [2] 2)) cU)⟩
def Qi:AFn:=⟨1,[],a [aw] (ec dp (d [n2,H 329 [] [v0],eh 196 v3] [] 2) (a [aC,n0] ao))⟩
def Qh:AFn:=⟨2,[],ec cB (d [n1,n2,g 330 [v1,v2],cN,n0] [0] 2) ao⟩
def Qg:AFn:=⟨1,[],a [cB] (a [n1,eo v1 av,n0] ao)⟩
def rZ:AC:=m [aG] (.seq au (.seq (.block 1 [[4],[16],[],[15],[],[14],[],[10,3,11,13],[2],[0,8]] (m [s 3 v6 v2,bu,aR,ba] (.seq (a [n4,v false v4,dh,n0] (.seq (.regD [n0,cN,n0,w 0 2 v3,bx,u 2 v9,u 3 v4,O 4 3 v1 v0,w 5 2 v0,t 6 v0,u 7 v14,u 8 v9,O 9 3 v1 v0,w 10 1 v0,t 11 v0,q 12 .add 3 v5 v0,eE 13 v11 v0,k v14 v0 al] [0,1,3,7,15,7,7,103,231,487,7,7,3079,7175,15367,32743,65535,131071]) (.cond v0 (.seq (.regD [n22,n16,n22,n16,s 3 v22 v16,bL,aC,c 2 v21,aC,c 1 v23,aC,bi,n30,n24,s 3 v30 v24,bF,aC,eU v3 v0,X v9 v0,s 3 v35 v29,bL,bn] [0,0,0,0,12,28,60,0,128,0,512,1920,0,0,12288,28672,61440,130944,262140,524287,1048575,2097151]) (.pre [37] 36 dO)) az))) (.reg [n22,c 1 v18,aC,c 2 v20,aC,fi v2 v0,aU,fd v28,n0])) [0] 28)) ax)) [1,0] 5
def xJ:AC:=.loop [[4],[15],[],[14],[],[10,3,11,13],[2],[0,8]] rZ
def Qf:AFn:=⟨1,[],ec aw (eI n1 (g 332 [v1]) (fO 331 333)) (dT (d [n0,fO 334 335] [] 1) (ec aw (es n1 c8 (.block 0 [[4],[],[14],[],[10,3,11,13],[2],[0,8]] (.pre [2,0] 0 xJ))) a5))⟩
def Qe:AFn:=⟨2,[],fb (d [n1,eT v1 av,n0,u 0 v3,dz,bm,n0,u 0 v5,eE 1 v0 aJ,bm,n0,u 0 v9,u 1 v9,q 2 .sub 3 aJ v0,eE 3 v2 v0,cM,n0] [0] 12)⟩
def Qd:AFn:=⟨2,[],ec (b aP) (a [n2,ef 139 v2 aP] ce) (dT dm (fH (d [n4,bu,n2,g 251 [v5,v0,v2],n0] [0] 2)))⟩
def Qc:AFn:=⟨1,[],ei aQ (d [c 2 v1,aC,c 4 v3,aC,eU v2 v0,X av v0,n0] [0] 6) ao⟩
def Qb:AFn:=⟨1,[],a [cl,aQ] (fK (.block 0 [[3],[],[2],[0]] (.post (.seq (d [n2,eo v2 av,n0,z 0 v3,cV,bz,n0] [0] 4) (dS dB (a [n3,ef 3 v3 av,n0] (eX (eM cq (i 2 v4 v0) aQ) dn)))) [2] 2)) (.seq (d [n3,n3,p [aj,aj,aj] [(1,1,v3)],aU,p [aj,ak] [(0,1,v5),(1,1,v0)],dq,aQ] [0] 4) bZ))⟩
def Qa:AFn:=⟨1,[],el bG (eC cv dg (g 346 [v0])) ao⟩
def P':AFn:=⟨2,[],es bG cl (dT cZ (dT bS (.seq (d [c 1 v5,aC,n4,ep 348 v4,n0] [0] 3) (dT (ee (.regD [n0,dH,n4,g 349 [v4],cP,c 1 v9,aC,dH,eY 3 v3 v0] [0,1,0,7,15,0,32,111,255]) 7 cY) ca))))⟩
def P9:AFn:=⟨1,[],a [bG,aw] (fH (fm 1 v1 (g 332 [v0])))⟩
def PZ:AFn:=⟨2,[],es bG cl (dT cZ (dT bS (.seq (d [c 1 v5,aC,n4,A 1 2 [ak] [(0,v0),(1,v4)],g 350 [v0],g 255 [v0],n0] [0] 5) (dT (ee (.regD [n0,dH,c 1 v7,aC,dH,n7,g 349 [v7],cP,eY 3 v5 v0] [0,1,0,4,15,0,63,127,255]) 7 cY) ca))))⟩
def PY:AFn:=⟨1,[],el bG (fm 1 v1 dH) ao⟩
def PX:AFn:=⟨3,[],a [bG,aw,cB] (.seq (d [c 1 v2,aC,n7,ep 351 v7,n0,aE,aD,n1,n0] [1] 5) (eZ (ez n0 n5 (ep 352 v5))))⟩
def PW:AFn:=⟨3,[],a [bG,aw,cB] (eZ (d [c 1 v2,aC,n6,ep 352 v6,aE,aD,n1,n0] [0,1] 5))⟩
def PV:AFn:=⟨3,[],a [bG,aw,cB] (.seq (d [c 1 v2,aC,n7,ep 351 v7,n0,aE,aD,n1,n0] [0,1] 5) (eZ (d [n1,n6,g 353 [v1,v6],n1,n7,n7,n2,g 349 [v2],D .min [v8,v0],eU v9 v0,eh 353 v4,fd v4,n0,b aq] [0,1] 7)))⟩
def PU:AFn:=⟨2,[],el bG (.seq (d [n3,eo v3 av,n0,z 0 v4,y 1 0 v3,x 2 v0,fc 3,r 4 .geq 3 v3 v0,da] [0] 7) (dR bf)) (eg (d [c 0 v2,aC,n6,s 1 v0 v6,aC,n0] [0] 4))⟩
def PT:AFn:=⟨2,[],a [n v1,aw] (.seq (.seq (eI n2 bI dh) (.seq (.post (.regD [n0,cN,n0,u 0 v4,u 1 v2,O 2 3 v1 v0,N 3 3 v0,E 4 325 [v0],w 5 0 v8,t 6 v0,fG 7 3,k v8 v0 al,n0,u 0 v13,u 1 v11,O 2 3 v1 v0,w 3 2 v0,t 4 v0,u 5 v18,u 6 v16,O 7 3 v1 v0,w 8 1 v0,t 9 v0,q 10 .add 3 v5 v0,w 11 2 v23,t 12 v0,fG 13 3,k v14 v0 al] [0,1,3,7,7,31,63,127,7,263,1023,2047,4095,8191,8191,32767,65535,131071,8191,8191,794623,1843199,3940351,8388607,8191,16785407,67108863,134217727]) [0] 25) (eX (.post (.regD [n4,n1,s 3 v4 v1,bL,aC,c 1 v6,aC,bi,s 3 v10 v7,bL,bn] [0,0,3,7,15,0,32,127,255,511,1023]) [] 8) (a [n4,n4] (.ret [.v 4]))))) (eg (d [n4,j 3 v3,aU,fd v6,n0] [0] 3)))⟩
def rY:AC:=dY (.block 1 [[1],[12],[],[11],[],[10],[6],[0,9],[],[2]] (m [s 3 v6 v2,bu,aR,ba] (.reg [n11,n4,bu,I v12 [v5,v0],n0]) [0] 5))
def xI:AC:=.loop [[1],[11],[],[10],[6],[0,9],[],[2]] rY
def PL:AFn:=⟨3,[],ec cB (es n1 c8 (.block 0 [[1],[],[10],[6],[0,9],[],[2]] (.pre [4,0] 0 xI))) a5⟩
def PK:AFn:=⟨3,[],a [n v1,cB] (.seq (d [n2,n2,w 2 1 v1,ck,fw 4 am,bD,n0,w 0 2 v5,bx,fw 2 av,a2,n0,w 0 2 v9,bx,w 2 0 v14,ck,fJ 4,eE 5 v3 v0,k v6 v0 al,n0,w 0 1 v16,bx,w 2 0 v21,ck,fJ 4,w 5 2 v21,t 6 v0,q 7 .sub 3 v2 v0,eE 8 v6 v0,k v9 v0 al,n0] [0] 25) ao)⟩
def PJ:AFn:=⟨1,[],ei cB (d [c 1 v1,aC,eT v0 am,n0,w 0 0 v4,bx,w 2 1 v6,ck,E 4 377 [v2,v0,aJ],bD,n0,w 0 2 v10,bx,w 2 1 v12,ck,E 4 377 [v2,v0,aJ],bD,n0] [0] 15) ao⟩
def PI:AFn:=⟨1,[],ei aQ (d [cv,aC,c 1 v3,aC,bi,n0] [0] 5) ao⟩
def PH:AFn:=⟨1,[],fu (.seq b5 dt)⟩
def PF:AFn:=⟨3,[],a [n v1,b aP] (.seq (.block 0 gk (.post (.seq cI (.cond v0 (.seq (.seq (.post (.regD [n3,l v3,bR,aC,g 326 [v0],n7,l v7,b2,aC,g 326 [v0],eT v4 v0] [0,1,3,7,15,0,32,96,224,511,1023]) [0] 9) (dR (ee (.regD [n4,l v4,bR,aC,n7,l v7,aL,bu,n10,l v10,b2,aC,j 3 v12,n16,g 328 [v1,v0,v16],eP 328 v8 v5,n0] [0,1,3,7,0,16,48,112,0,256,768,1792,0,0,16128,32767,65535]) 12 ao))) (.seq (d [n4,l v4,b2,aC,n0] [0] 3) (.seq (.post (.regD [n5,l v5,bR,aC,n8,l v8,aL,bu,n6,l v6,bR,aC,eP 328 v6 v3,n10,l v10,aL,bu,n13,l v13,b2,aC,j 3 v20,n24,g 328 [v1,v0,v24],eP 328 v8 v5,n0] [0,1,3,7,0,16,48,112,0,256,768,1792,4095,0,8192,24576,57344,0,131072,393216,917504,0,0,8265727,16777215,33554431]) [0] 19) ao))) (.seq cH (.cond v0 (.seq (.seq (.post (.regD [n6,l v6,b2,aC,g 326 [v0],n10,l v10,bR,aC,g 326 [v0],eT v4 v0] [0,1,3,7,15,0,32,96,224,511,1023]) [0] 9) (dR (ee (.regD [n5,j 3 v4,n8,l v8,bR,aC,eP 328 v9 v3,n12,l v12,aL,bu,n15,l v15,b2,aC,eP 328 v6 v3,n0] [0,0,0,4,12,28,63,0,128,384,896,0,2048,6144,14336,32767,65535]) 12 ao))) (.seq (d [n7,l v7,bR,aC,n0] [0] 3) (.seq (.post (.regD [n6,j 3 v5,n1,l v1,bR,aC,eP 328 v10 v3,n5,l v5,aL,bu,n8,l v8,b2,aC,n19,l v19,aL,bu,n22,l v22,b2,aC,eP 328 v6 v3,eP 328 v13 v10,n0] [0,0,0,4,12,28,63,0,128,384,896,0,2048,6144,14336,0,32768,98304,229376,0,524288,1572864,3670016,8386687,16777215,33554431]) [0] 19) ao))) az)))) [2] 2)) cU)⟩
def PE:AFn:=⟨3,[],a [n v1,b aP] (.seq (.post (.regD [j 3 v1,n3,n5,n3,g 326 [v3],n6,g 326 [v6],X v1 v0,ej am v0,n7,g 378 [v7],ej am v0,n11,g 378 [v11],cP,c 1 v10,aC,n13,g 124 [v13],cP,n17,g 124 [v17],cP,p [aj,aj,aj,ar,ar,aj,aj,aj] [(0,3,v14),(3,1,v17),(4,1,v19),(5,1,v10),(6,1,v6),(7,1,v0)],bG,n0] [0,0,0,0,8,0,56,120,248,0,632,1656,0,5752,15992,0,32768,0,145016,505464,0,1455736,4175480,8388607,16777215,33554431]) [0] 17) ao)⟩
def PD:AFn:=⟨2,[],ei cB (d [f v3,j 3 v2,aU,fd v2,i 1 v7 v0] [] 4) dr⟩
def rX:AC:=fj 1 aC
def xH:AC:=.loop gq rX
def PC:AFn:=⟨2,[],eH (.pre [2,0] 0 xH)⟩
def PB:AC:=.post (.seq (a [n1,n6,v false v6,eo v2 v0] cT) (fK (.block 1 [[5],[19],[18],[],[6,16],[15],[12],[10,11,14],[4],[0,8,17],[1,9]] (m [n8,n3,s 3 v8 v3,bu,aR,ba] (a [n12,bu,I v13 [v0],aV] (.cond v0 (m [n14,n8,j 3 v3,s 3 v15 v9,ba] (ek n10 v10) [0] 3) (.post az [8] 0))) [0] 7)) (ek n4 v4))) [1,0] 6
def ab9:AC:=.loop [[5],[6],[15],[12],[10,11,14],[4],[0,8],[1,9]] PB
def I9:AFn:=⟨2,[],a [aw] (a [n1,n2,g 379 [v1,v2],n0] (dT (dU n0 (ef 3 v0 aZ) (a [n3,n3] (.ret [.v 3]))) (fK (a [n1,ej v1 am,n0] (.block 0 [[5],[15],[12],[10,11,14],[4],[0,8],[1,9]] (.pre [2,0] 0 ab9))) (dV (.c (.tuple #[])) az))))⟩
def PA:AFn:=⟨1,[],ex 148 cJ⟩
def Pz:AFn:=⟨1,[],a [bG,cB] (fH (eC (j 3 v1) (g 324 [v0]) aV))⟩
def Py:AFn:=⟨1,[],el bG (eC cv aC aT) ao⟩
def rW:AC:=m [b8] (.seq bj (.seq (.block 1 [[4],[5],[14],[],[],[13],[],[12],[],[],[2],[0],[1,11]] (m [s 3 v10 v3,bu,aR,ba] (a [bL,aC,dj,n0,y 0 2 v3,bq,b7,aX,n0,y 0 2 v7,bq,y 2 0 v20,df,eF 4 v2 v0,da,n0,y 0 1 v13,bq,y 2 0 v26,df,y 4 2 v17,x 5 v0,r 6 .sub 3 v2 v0,eF 7 v5 v0,k v8 aq v0] (dR (a [aw,cB] ay))) [26,27] 25)) a8)) [1,2,0] 7
def xG:AC:=.loop [[4],[5],[13],[],[12],[],[],[2],[0],[1,11]] rW
def rV:AC:=et dJ (.block 3 [[48],[47],[],[46],[44,8,45],[4],[5],[],[12],[],[],[2],[0],[1,11,43]] (m [n1,n1] (.reg [n4,n1,s 3 v4 v1,aL,i 1 v0 av]) [] 2))
def xF:AC:=.loop [[47],[],[46],[44,8,45],[4],[5],[],[12],[],[],[2],[0],[1,11,43]] rV
def Px:AFn:=⟨2,[],a [bG,aw,cB] (.seq (eD n4 v4 (.block 0 [[4],[5],[],[12],[],[],[2],[0],[1,11]] (.pre [3,2,0] 0 xG))) (a [n8,g 332 [v8],n0] (dT (es n0 aT (.block 2 [[],[46],[44,8,45],[4],[5],[],[12],[],[],[2],[0],[1,11,43]] (.pre [0] 0 xF))) (a [n2,g 255 [v2],n0] (eZ (d [n0,n0,dH,n13,g 349 [v13],ef 3 v1 v0,n3,n0] [0] 3))))))⟩
def rU:AC:=dY (.block 1 [[0],[14],[],[13],[],[12],[4],[],[1,11]] (m [s 3 v7 v2,bu,aR,ba] (a [n4,bF,aC,eh 351 v6,n0,aE,aD,n1,n0] (a [n1,j 3 v5,g 387 [v0],eh 351 v3,n0,aE,aD,n1,n0] (.reg [n5,n1,C 3 24 v5 v1,n0]))) [0] 14))
def xE:AC:=.loop [[0],[13],[],[12],[4],[],[1,11]] rU
def Pw:AFn:=⟨2,[],fa aw (.block 0 [[0],[],[12],[4],[],[1,11]] (.pre [3,0] 0 xE))⟩
def rT:AC:=dY (.block 1 [[3],[9],[],[8],[],[7],[],[2],[0,6]] (m [s 3 v7 v2,bu,aR,ba] dI [0] 6))
def xD:AC:=.loop [[3],[8],[],[7],[],[2],[0,6]] rT
def Pv:AFn:=⟨1,[],fu (fa aQ (.block 0 [[3],[],[7],[],[2],[0,6]] (.pre [2,0] 0 xD)))⟩
def rS:AC:=m [b8] (.seq bj (.seq (.block 1 [[4],[5],[11],[],[],[10],[],[9],[],[],[0,8],[1]] (m [s 3 v8 v3,bu,aR,ba] (.seq (a [bF,aC,n14,eo v0 v14] (dS (.post (.regD [n8,c 2 v3,aC,j 3 v5,g 387 [v0],n19,D .min [v0,v19],eh 389 v3,aU,fd v15,n0] [0,0,2,0,8,0,56,126,254,511,1023]) [0] 8) (.post az [8] 0))) (a [j 3 v4,g 387 [v0],n18,ff v18] (dS (.post (.regD [n11,c 2 v7,aC,n21,X v0 v21,j 3 v10,g 387 [v0],eh 389 v2,aU,fd v18,n0] [0,0,2,0,14,0,32,126,254,511,1023]) [0] 8) (.post az [11] 0)))) [0,4] 11)) a8)) [1,2,0] 7
def xC:AC:=.loop [[4],[5],[10],[],[9],[],[],[0,8],[1]] rS
def Pu:AFn:=⟨2,[],a [aw,aw] (dT (es n2 bI (.block 0 [[4],[5],[],[9],[],[],[0,8],[1]] (.pre [3,2,0] 0 xC))) (a [n0,n1,n0,n1] bU))⟩
def Pt:AFn:=⟨2,[],a [n v1,aw,cB] (fK (eI n3 (H 390 [] [v2]) (eh 379 v4)) (dT (dU n0 bP (a [aw,cB] ay)) (dT (.post (.regD [n5,n1,s 3 v5 v1,bF,aC,n8,n4,s 3 v8 v4,bF,aC,f v10,cP,eh 389 v5,aU,n0,b aq] [0,0,3,7,15,0,0,96,224,480,0,2016,4095,8191,16383,32767]) [0,1] 11) ay)))⟩
def rR:AC:=m [b8] (.seq cT (.seq (.block 1 [[1],[5],[12],[],[],[11],[],[10],[],[4],[0,9],[]] (m [s 3 v8 v3,bu,aR,ba] (a [n4,bL,aC,D .min [v6,v0],n0] (.seq (a [n0,ff av] (.cond v0 (d [n9,c 2 v4,aC,c 2 v6,aC,n5,ej v0 v5,eh 389 v3,aU,fd v16,n0] [0] 8) (.post az [9] 0))) (.reg [n9,n2,eU v9 v2,n0]))) [0,1] 9)) a8)) [1,2,0] 7
def xB:AC:=.loop [[1],[5],[11],[],[10],[],[4],[0,9],[]] rR
def Ps:AFn:=⟨2,[],a [aw] (fa aw (.block 0 [[5],[],[10],[],[4],[0,9],[]] (.pre [5,2,0] 0 xB)))⟩
def Pn:AFn:=⟨3,[],fb (d [n1,eT v1 av,n0,u 0 v3,dz,bm,n0,u 0 v5,u 1 v8,eE 2 v1 v0,a2,n0,u 0 v10,u 1 v12,u 2 v11,q 3 .sub 3 v1 v0,eE 4 v3 v0,bD,n0] [0] 14)⟩
def Pm:AFn:=⟨1,[],ec aQ b5 (fH (fC 6))⟩
def mD:AC:=fj 3 bu
def qH:AC:=.loop gq mD
def I8:AFn:=⟨2,[],eH (.pre [2,0] 0 qH)⟩
def Pl:AFn:=⟨1,[],ei aQ (d [c 2 v1,aC,c 1 v3,aC,bi,n0] [0] 5) ao⟩
def Pk:AFn:=⟨2,[],a [aR] (.seq (d [n2,n1,eU v2 v1,n2,fi v0 v2,i 3 v2 v0] [] 2) (eG 0 3))⟩
def Pj:AFn:=⟨2,[],ei cB (d [c 1 v1,aC,f v5,eT v1 v0,n0] [0] 4) ao⟩
end
noncomputable def gn(n:Nat):AFn:=match SR.funcs[n]? with|some f=>(match Gen.fn SR [] f with|some p=>p.2|none=>⟨0,[],.skip⟩)|none=>⟨0,[],.skip⟩
noncomputable def tbS:List (Nat×AFn):=[(3,ac3),(4,ac4),(5,ac5),(6,ac6),(7,ac7),(8,ac8),(9,ac9),(11,afx),(12,afw),(14,afv),(15,afu),(17,aft),(18,Ab),(19,afs),(20,afr),(21,afq),(22,afp),(23,acn),(24,afo),(32,afl),(33,afk),(34,afj),(35,ab8),(36,afi),(37,afh),(40,afg),(41,aff),(42,afe),(43,afd),(44,afc),(45,afb),(46,afa),(49,ae'),(50,ae9),(51,ae8),(52,ae7),(53,ab2),(54,ae6),(55,ae5),(57,ab1),(58,ae4),(59,ae3),(60,ae2),(61,ab0),(87,aeR),(88,aeQ),(89,aeP),(90,aeO),(91,aeN),(92,aeM),(93,aeL),(94,aeK),(95,aeJ),(97,aeI),(98,aeH),(99,aeG),(100,Q7),(101,Q6),(102,Q5),(103,Ji),(104,Q4),(105,Q3),(106,Jh),(107,Q2),(108,Jg),(109,Q0),(110,QZ),(111,QY),(117,QX),(118,QW),(119,QV),(120,QU),(121,QT),(123,QS),(124,QR),(126,QQ),(127,QP),(165,QM),(166,QL),(167,QK),(168,QJ),(169,QI),(170,QH),(171,QG),(172,QF),(173,QE),(174,QD),(185,Jf),(186,QC),(187,QB),(188,Je),(189,FB),(190,QA),(191,Qz),(192,Qy),(193,Qx),(196,Jd),(244,Qn),(245,Qm),(246,Ql),(247,Jc),(248,Jb),(249,Qk),(250,Ja),(251,Qj),(252,Qi),(253,Qh),(254,Qg),(255,Qf),(256,Qe),(257,Qd),(258,Qc),(274,Qb),(275,Qa),(276,P'),(277,P9),(278,PZ),(279,PY),(280,PX),(281,PW),(282,PV),(283,PU),(284,PT),(322,PL),(323,PK),(324,PJ),(325,PI),(326,PH),(327,PF),(328,PE),(329,PD),(330,PC),(331,I9),(332,PA),(333,Pz),(346,Py),(347,Px),(348,Pw),(349,Pv),(351,Pu),(352,Pt),(353,Ps),(377,Pn),(378,Pm),(379,I8),(387,Pl),(389,Pk),(390,Pj)]
noncomputable def tbG(l:List Nat):List (Nat×AFn):=l.map λn=>(n,gn n)
noncomputable def tab:List (Nat×AFn):=tbS++(tbG [10,25,26,27,28,29,30,31,63,64,65,66,67,68,69,70,71,72,73,74,75,76,77,78,79,80,81,84,85,86,96,129,130,131,132,133,134,138,139,140,141,143]++(tbG [144,145,146,147,148,149,150,151,154,155,156,157,158,161,163,198,199,200,201,202,203,211,212,213,214,215,216,217,218,219,220,221,222,224,225,227,230,234,235,236,237,238]++(tbG [239,240,241,242,243,285,286,287,288,289,290,291,292,303,304,305,307,309,310,312,313,314,315,316,317,318,319,320,321,358,359,360,373,374,375,376,393,398,399,411])))
def ckT(P:Program)(p:Nat×AFn):Bool:=match P.funcs[p.1]? with|some fn=>zE P fn p.2|none=>false
theorem Eg{P:Program}:∀l:List (Nat×AFn),(l.all (ckT P))=true->Good P l
 |[],_=>.nil
 |(f,af)::l,h=>by
  simp only[List.all_cons,Bool.and_eq_true]at h;obtain⟨h1,h2⟩:=h;unfold ckT at h1;split at h1
  ·rename_i fn hf;exact .cons hf h1 (Eg l h2)
  ·cases h1
theorem cS9:tbS.all (ckT SR)=true:=by kernel_rfl
theorem cG0:(tbG [10,25,26,27,28,29,30,31,63,64,65,66,67,68,69,70,71,72,73,74,75,76,77,78,79,80,81,84,85,86,96,129,130,131,132,133,134,138,139,140,141,143]).all (ckT SR)=true:=by kernel_rfl
theorem cG1:(tbG [144,145,146,147,148,149,150,151,154,155,156,157,158,161,163,198,199,200,201,202,203,211,212,213,214,215,216,217,218,219,220,221,222,224,225,227,230,234,235,236,237,238]).all (ckT SR)=true:=by kernel_rfl
theorem cG2:(tbG [239,240,241,242,243,285,286,287,288,289,290,291,292,303,304,305,307,309,310,312,313,314,315,316,317,318,319,320,321,358,359,360,373,374,375,376,393,398,399,411]).all (ckT SR)=true:=by kernel_rfl
theorem Cq:Good SR tab:=Eg _ (by rw[tab,List.all_append,List.all_append,List.all_append,cS9,cG0,cG1,cG2];rfl)
end Go.Am.CR
