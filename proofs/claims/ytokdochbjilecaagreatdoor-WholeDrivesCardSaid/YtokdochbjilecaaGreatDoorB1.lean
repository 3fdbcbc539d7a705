/- The machine and its runs, part 1: AxDef AxGlobJ AxGlob AxRel AxOps AxChk AxPure. -/
import Derived.Calls
import Derived.Test.YtokdochbjilecaaGreatDoorProg
import Derived.Below
import Derived.WalkKit
set_option linter.unusedVariables false
set_option linter.unusedSimpArgs false
set_option linter.unusedSectionVars false
namespace Go.Am
open Go
inductive Blk where
 |cells (c:List Value) (sz:Nat) (opn wr:Bool)
 |map (es:List (Value×Value))
class AMem (μ:Type) where
 get:μ->Nat->Option Blk
 put:μ->Nat->Option Blk->μ
 lim:μ->Nat->Bool
 get_put:∀m i j x,lim m i=true->get (put m i x) j=if j=i then x else get m j
 get_lim:∀m i x,get m i=some x->lim m i=true
 lim_put:∀m i j x,lim (put m i x) j=lim m j
def ltB:Int->Int->Bool
 | .ofNat a,.ofNat b=>Nat.blt a b
 | .ofNat _,.negSucc _=>false
 | .negSucc _,.ofNat _=>true
 | .negSucc a,.negSucc b=>Nat.blt b a
def eqB:Int->Int->Bool
 | .ofNat a,.ofNat b=>Nat.beq a b
 | .negSucc a,.negSucc b=>Nat.beq a b
 | .ofNat _,.negSucc _=>false
 | .negSucc _,.ofNat _=>false
def H3:Int->Bool
 | .ofNat a=>Nat.blt a 9223372036854775808
 | .negSucc a=>Nat.blt a 9223372036854775808
def gn(k:IntKind)(n:Int):Int:=
 match k with
 | .i64=>cond (H3 n) n (k.wrap n)
 |_=>k.wrap n
def jV{α:Type}(n:Nat)(k:Nat->α):α:=match n with|0=>k 0|m+1=>k (m+1)
def UNK:Nat:=4611686018427387904
def VAG:Nat:=4611686018427387905
def bit(n:Nat):Nat:=Nat.shiftLeft 1 n
def flat:Value->Bool
 | .bool _ | .int _ _ | .float _ _ | .string _ | .pointer none | .slice none 0 0 | .map none | .nilFunc | .nilIface=>true
 |_=>false
def du:Value->Bool
 | .agg cs=>cs.toList.all flat
 | .tuple cs=>cs.toList.all flat
 | .func (.func _) a c=>a.toList.isEmpty&&c.toList.isEmpty
 |v=>flat v
def one:Value->Bool
 | .agg _ | .tuple _=>false
 |_=>true
def Kq:Value->Value->Bool
 | .bool a,.bool b=>a==b
 | .int k a,.int k' b=>k==k'&&a==b
 | .string a,.string b=>a.data.toList==b.data.toList
 | .pointer none,.pointer none=>true
 | .slice none 0 0,.slice none 0 0=>true
 | .map none,.map none=>true
 | .nilFunc,.nilFunc=>true
 | .nilIface,.nilIface=>true
 | .func (.func f) a c,.func (.func g) a' c'=>f==g&&a.toList.isEmpty&&c.toList.isEmpty&&a'.toList.isEmpty&&c'.toList.isEmpty
 |_,_=>false
def mH:List Value->List Value->Bool
 |[],[]=>true
 |a::asl,b::bs=>Kq a b&&mH asl bs
 |_,_=>false
def veq:Value->Value->Bool
 | .agg a,.agg b=>mH a.toList b.toList
 | .tuple a,.tuple b=>mH a.toList b.toList
 |a,b=>Kq a b
noncomputable def ey(l:List Value):Nat->Value:=
 List.rec (motive:=fun _=>Nat->Value) (fun _=>undef) (fun a _ ih i=>Nat.rec (motive:=fun _=>Value) a (fun j _=>ih j) i) l
noncomputable def lE(l:List Value):Nat->List Value:=
 List.rec (motive:=fun _=>Nat->List Value) (fun _=>[]) (fun a l ih i=>Nat.rec (motive:=fun _=>List Value) (a::l) (fun j _=>ih j) i) l
noncomputable def fh(l:List Value):Nat->Option Value:=
 List.rec (motive:=fun _=>Nat->Option Value) (fun _=>none) (fun a _ ih i=>Nat.rec (motive:=fun _=>Option Value) (some a) (fun j _=>ih j) i) l
noncomputable def jQ(x:Value)(l:Option (List Value)):Option (List Value):=Option.rec (motive:=fun _=>Option (List Value)) none (fun l=>some (x::l)) l
noncomputable def oC(l:List Value):Nat->Option (List Value):=
 List.rec (motive:=fun _=>Nat->Option (List Value)) (fun n=>Nat.rec (motive:=fun _=>Option (List Value)) (some []) (fun _ _=>none) n)
  (fun a _ ih i=>Nat.rec (motive:=fun _=>Option (List Value)) (some []) (fun j _=>jQ a (ih j)) i) l
noncomputable def eO(c:List Value)(off n:Nat):Option (List Value):=oC (lE c off) n
noncomputable def cover(vs:List Value):List Value->Option (List Value):=
 List.rec (motive:=fun _=>List Value->Option (List Value)) (fun c=>some c)
  (fun v _ ih c=>List.rec (motive:=fun _=>Option (List Value)) none (fun _ c _=>jQ v (ih c)) c) vs
noncomputable def setCells(c:List Value):Nat->List Value->Option (List Value):=
 List.rec (motive:=fun _=>Nat->List Value->Option (List Value)) (fun i vs=>Nat.rec (motive:=fun _=>Option (List Value)) (cover vs []) (fun _ _=>none) i)
  (fun x c ih i vs=>Nat.rec (motive:=fun _=>Option (List Value)) (cover vs (x::c)) (fun j _=>jQ x (ih j vs)) i) c
noncomputable def gx(l:List Value):Nat:=List.rec (motive:=fun _=>Nat) 0 (fun _ _ n=>Nat.succ n) l
noncomputable def Cv(e:List Value)(sel:List Nat)(t:List Value):List Value:=List.rec (motive:=fun _=>List Value) t (fun i _ r=>ey e i::r) sel
inductive Opd where
 |v (i:Nat)
 |c (x:Value)
inductive POp where
 |byte
 |ind (n:Nat)
 |fld (off:Nat)
 |sub
 |subl
 |subh
 |bit (op:BinOp) (t:Nat)
 |isn (op:BinOp) (t:Nat)
 |min
 |arrs (n:Nat)
 |s2a (n:Nat)
 |gld (g:Nat) (cs:List Value)
inductive MOp where
 |mk
 |look (kt:Nat) (z:Value) (ok:Bool)
 |upd (kt:Nat)
 |del (kt:Nat)
 |str
 |cpy (sz:Nat)
inductive AOp where
 |mov (x:Opd)
 |pick (c a b:Opd)
 |bin (op:BinOp) (t:Nat) (x y:Opd)
 |una (op:UnOp) (x:Opd)
 |conv (k:IntKind) (x:Opd)
 |fld (off:Nat) (x:Opd)
 |idx (sz:Nat) (x i:Opd)
 |ida (n sz:Nat) (x i:Opd)
 |build (zero:List Value) (parts:List (Nat×Nat×Opd))
 |extr (i:Nat) (x:Opd)
 |nilck (x:Opd)
 |func (fn:Nat) (first cap:List Opd)
 |len (s:Bool) (x:Opd)
 |mx (x y:Opd)
 |slc (sz:Nat) (x:Opd) (lo hi:Option Opd)
 |new (cells:List Value)
 |box (x:Opd)
 |mkl (sz len:Nat) (zero:List Value) (parts:List (Nat×Opd))
 |make (sz bytes:Nat) (zero:List Value) (l c:Opd)
 |ld1 (x:Opd)
 |ldn (n:Nat) (x:Opd)
 |st (n:Nat) (x y:Opd)
 |app (sz bytes:Nat) (x y:Opd)
 |call (f:Nat) (args:List Opd)
 |callv (x:Opd) (args:List Opd)
 |pur (op:POp) (xs:List Opd)
 |mp (op:MOp) (xs:List Opd)
inductive AI where
 |nop (i:Nat)
 |op (o:AOp)
 |opg (o:AOp) (gi:Nat) (gw:Bool)
 |eff (o:AOp)
 |effg (o:AOp) (gi:Nat) (gw:Bool)
inductive ROp where
 |v (i:Nat)
 |cell (i:Nat)
 |cells (i n:Nat)
inductive AC where
 |skip
 |reg (l:List AI)
 |regD (l:List AI) (before:List Nat)
 |seq (a b:AC)
 |cond (x:Opd) (a b:AC)
 |block (id:Nat) (sh:List (List Nat)) (b:AC)
 |loop (sh:List (List Nat)) (b:AC)
 |pre (sel:List Nat) (d:Nat) (c:AC)
 |post (c:AC) (sel:List Nat) (d:Nat)
 |exit (id:Nat)
 |ret (rs:List ROp)
inductive AX where
 |norm
 |exit (id:Nat)
 |ret (v:Value)
inductive OR(μ:Type) where
 |no
 |ok (v:Value) (m:μ) (n r w:Nat)
inductive CR(μ:Type) where
 |no
 |ok (x:AX) (e:List Value) (m:μ) (n r w:Nat)
section
variable{μ:Type}[AMem μ](P:Program)
noncomputable def ev(e:List Value):Opd->Value
 | .v i=>ey e i
 | .c x=>x
def dG{α:Type}:Sem α->Option α
 | .pure a=>some a
 | .program k=>dG (k P)
 |_=>none
def fN(op:BinOp)(k:IntKind)(a b:Int):Option Value:=
 match op with
 | .add=>some (.int k (gn k (Int.add a b)))
 | .sub=>some (.int k (gn k (Int.sub a b)))
 | .mul=>some (.int k (gn k (Int.mul a b)))
 | .quo=>cond (eqB b 0) none (some (.int k (gn k (a.tdiv b))))
 | .rem=>cond (eqB b 0) none (some (.int k (a.tmod b)))
 | .eql=>some (.bool (eqB a b))
 | .neq=>some (.bool (!eqB a b))
 | .lss=>some (.bool (ltB a b))
 | .leq=>some (.bool (!ltB b a))
 | .gtr=>some (.bool (ltB b a))
 | .geq=>some (.bool (!ltB a b))
 |_=>none
def kY(op:BinOp)(isNil:Bool):Option Value:=
 match op with
 | .eql=>some (.bool isNil)
 | .neq=>some (.bool (!isNil))
 |_=>none
def je(t:Nat):Bool:=match P.underlying t with|some (.slice _)=>true|_=>false
def jm(t:Nat):Bool:=match P.underlying t with|some (.pointer _)=>true|_=>false
def mz:Option Value->Option Value
 |some v=>cond (flat v) (some v) none
 |none=>none
def pU:Value->Bool
 | .nilIface=>false
 |_=>true
def ji(op:BinOp)(t:Nat)(x y:Value):Option Value:=
 match x,y with
 | .int k a,.int k' b=>cond (decide (k=k')) (fN op k a b) none
 | .slice a _ _,.slice none 0 0=>cond (je P t) (kY op a.isNone) none
 | .pointer a,.pointer none=>cond (jm P t) (kY op a.isNone) none
 |x,y=>cond (du x&&du y&&pU x) (mz (dG P (do eqGuard op t (.tmp 0) (.tmp 0) x y;binOp op t x y))) none
def yA(k:IntKind)(n:Int):Int:=k.wrap (BitVec.ofInt k.bits (if k.signed then -1 else k.max) ^^^ BitVec.ofInt k.bits n).toNat
def zz(op:UnOp)(x:Value):Option Value:=
 match op,x with
 | .not,.bool b=>some (.bool (!b))
 | .neg,.int k n=>some (.int k (gn k (Int.sub 0 n)))
 | .xor,.int k n=>some (.int k (yA k n))
 |_,_=>none
noncomputable def jW(ps:List (Nat×Nat×Value)):List Value->Option (List Value):=
 List.rec (motive:=fun _=>List Value->Option (List Value)) (fun c=>some c)
  (fun p _ ih c=>cond (Nat.beq (gx p.2.2.cells.toList) p.2.1) (Option.rec (motive:=fun _=>Option (List Value)) none ih (setCells c p.1 p.2.2.cells.toList)) none) ps
def mW(d:Nat):Option Value->Option Nat
 |none=>some d
 |some (.int _ (.ofNat n))=>some n
 |some _=>none
def Aa(a b:Value):Value->Option Value
 | .bool t=>some (cond t a b)
 |_=>none
def iO(k:IntKind):Value->Option Value
 | .int _ n=>some (.int k (gn k n))
 |_=>none
def F1(off:Nat):Value->Option Value
 | .pointer (some ⟨b,o,none⟩)=>some (.pointer (some ⟨b,Nat.add o off,none⟩))
 |_=>none
def eN:Value->Option Nat
 | .int _ (.ofNat i)=>some i
 |_=>none
def fU(sz:Nat)(i:Nat):Value->Option Value
 | .slice (some ⟨b,o,none⟩) len _=>cond (Nat.blt i len) (some (.pointer (some ⟨b,Nat.add o (Nat.mul i sz),none⟩))) none
 |_=>none
def FU(n sz:Nat)(i:Nat):Value->Option Value
 | .pointer (some ⟨b,o,none⟩)=>cond (Nat.blt i n) (some (.pointer (some ⟨b,Nat.add o (Nat.mul i sz),none⟩))) none
 |_=>none
def NF(s:ByteArray)(i:Nat):Option Value:=match s.data.toList[i]? with
 |some b=>some (.int .u8 (.ofNat b.toNat))
 |none=>none
def CW(i:Nat):Value->Option Value
 | .string s=>NF s i
 |_=>none
noncomputable def Ld(n i:Nat):Value->Option Value
 | .agg cs=>cond (Nat.blt i n) (fh cs.toList i) none
 |_=>none
noncomputable def F2(off:Nat):Value->Option Value
 | .agg cs=>fh cs.toList off
 |_=>none
def NS(s:ByteArray)(a b:Nat):Option Value:=cond (Nat.ble a b&&Nat.ble b s.size) (some (.string (s.extract a b))) none
def zG(lo:Option Nat)(hi:Option Nat):Value->Option Value
 | .string s=>match lo,hi with
  |some a,some b=>NS s a b
  |_,_=>none
 |_=>none
def GQ:Value->Option Nat
 | .string s=>some s.size
 |_=>none
def mq(op:BinOp)(t:Nat):Value->Value->Option Value
 | .int k a,.int k' b=>mz (dG P (do eqGuard op t (.tmp 0) (.tmp 0) (.int k a) (.int k' b);binOp op t (.int k a) (.int k' b)))
 |_,_=>none
def mnV:Value->Value->Option Value
 | .int k a,.int _ b=>some (.int k (cond (ltB b a) b a))
 |_,_=>none
def C9(n:Nat):Value->Option Value
 | .pointer (some ⟨b,o,none⟩)=>cond (Nat.blt n UNK) (some (.slice (some ⟨b,o,none⟩) n n)) none
 |_=>none
def FE(n:Nat):Value->Option Value
 | .slice (some ⟨b,o,none⟩) len _=>cond (Nat.ble n len&&Nat.blt 0 n) (some (.pointer (some ⟨b,o,none⟩))) none
 |_=>none
def Ol:List (Nat×List Value):=[(0,[.int .i64 60,.int .i64 5,.int .i64 2,.int .i64 3,.int .i64 1])]
def gldV(cs:List Value):Option Value:=some (.agg cs.toArray)
def Lb(op:BinOp)(t:Nat):Value->Option Value
 | .nilIface=>mz (dG P (binOp op t .nilIface .nilIface))
 | .iface _ _=>match op,P.underlying t with
  | .eql,some (.interface _)=>some (.bool false)
  | .neq,some (.interface _)=>some (.bool true)
  |_,_=>none
 |_=>none
noncomputable def purV(op:POp)(xs:List Value):Option Value:=match op,xs with
 | .byte,[x,i]=>Option.rec (motive:=fun _=>Option Value) none (fun i=>CW i x) (eN i)
 | .ind n,[x,i]=>Option.rec (motive:=fun _=>Option Value) none (fun i=>Ld n i x) (eN i)
 | .fld off,[x]=>F2 off x
 | .sub,[x,a,b]=>zG (eN a) (eN b) x
 | .subl,[x,a]=>zG (eN a) (GQ x) x
 | .subh,[x,b]=>zG (some 0) (eN b) x
 | .bit op t,[x,y]=>mq P op t x y
 | .isn op t,[x]=>Lb P op t x
 | .min,[x,y]=>mnV x y
 | .arrs n,[x]=>C9 n x
 | .s2a n,[x]=>FE n x
 | .gld _ cs,[]=>gldV cs
 |_,_=>none
noncomputable def xl(i:Nat):Value->Option Value
 | .tuple vs=>fh vs.toList i
 |_=>none
def qW:Value->Option Value
 | .pointer (some a)=>some (.pointer (some a))
 |_=>none
def jS(str:Bool):Value->Option Value
 | .slice _ n _=>cond str none (some (.int .i64 (.ofNat n)))
 | .string s=>cond str (some (.int .i64 (.ofNat s.size))) none
 |_=>none
def mxV:Value->Value->Option Value
 | .int k a,.int _ b=>some (.int k (cond (ltB a b) b a))
 |_,_=>none
def Fu(sz l h len cap:Nat):Option Addr->Option Value
 |some ⟨b,o,none⟩=>cond (Nat.beq cap VAG) (some (.slice (some ⟨b,o,none⟩) 0 VAG))
   (cond (Nat.beq cap UNK)
    (cond (Nat.blt l len || Nat.beq l 0) (some (.slice (some ⟨b,Nat.add o (Nat.mul l sz),none⟩) (Nat.sub h l) UNK)) (some (.slice (some ⟨b,o,none⟩) 0 VAG)))
    (cond (Nat.blt cap UNK) (cond (Nat.blt l cap || Nat.beq l 0) (some (.slice (some ⟨b,Nat.add o (Nat.mul l sz),none⟩) (Nat.sub h l) (Nat.sub cap l))) (some (.slice (some ⟨b,o,none⟩) 0 VAG))) none))
 |none=>cond (Nat.beq len 0&&Nat.beq cap 0) (some (.slice none 0 0)) none
 |_=>none
def jK(sz:Nat)(lo hi:Option Value):Value->Option Value
 | .slice a len cap=>match mW 0 lo,mW len hi with
  |some l,some h=>cond (Nat.ble l h&&Nat.ble h len) (Fu sz l h len cap a) none
  |_,_=>none
 |_=>none
def qq:Option (List Value)->Option Value
 |some c=>some (.agg c.toArray)
 |none=>none
noncomputable def rS(f:Nat->Option Value)(x:Option Nat):Option Value:=Option.rec (motive:=fun _=>Option Value) none f x
def fg(m:μ)(n b:Nat):Option Blk:=cond (Nat.blt b n) (AMem.get m b) none
def kZ(m:μ)(n:Nat)(B:Blk)(v:Nat->Value):OR μ:=
 cond (AMem.lim m n) (.ok (v n) (AMem.put m n (some B)) (Nat.succ n) 0 (bit n)) .no
def yb(o l c b:Nat):Value:=.slice (some ⟨b,o,none⟩) l c
def iU(b:Nat):Value:=.pointer (some ⟨b,0,none⟩)
def eG(m:μ)(n:Nat):Option Value->OR μ
 |some v=>.ok v m n 0 0
 |none=>.no
def lP(m:μ)(n b:Nat):Option Value->OR μ
 |some v=>.ok v m n (bit b) 0
 |none=>.no
noncomputable def iq(B:Option Blk)(f:List Value->OR μ):OR μ:=Option.rec (motive:=fun _=>OR μ) .no (fun B=>Blk.rec (motive:=fun _=>OR μ) (fun c _ _ _=>f c) (fun _=>.no) B) B
def zE(sz:Nat):Option Blk->Bool
 |some (.cells _ s _ _)=>Nat.beq s sz
 |_=>false
def kP(m:μ)(n sz:Nat)(v:Option Value):Value->OR μ
 | .slice (some ⟨b,_,none⟩) _ c=>cond (Nat.beq c UNK) (cond (zE sz (fg m n b)) (lP m n b v) .no) (eG m n v)
 |_=>eG m n v
noncomputable def rh(m:μ)(n:Nat):Value->OR μ
 | .pointer (some ⟨b,o,none⟩)=>iq (fg m n b) fun c=>lP m n b (fh c o)
 |_=>.no
noncomputable def vR(k:Nat)(m:μ)(n:Nat):Value->OR μ
 | .pointer (some ⟨b,o,none⟩)=>iq (fg m n b) fun c=>lP m n b (qq (eO c o k))
 |_=>.no
def qR(m:μ)(n b sz:Nat)(opn:Bool)(v:Value)(r:Nat):Option (List Value)->OR μ
 |some c=>.ok v (AMem.put m b (some (.cells c sz opn true))) n r (bit b)
 |none=>.no
noncomputable def stC(m:μ)(n b o:Nat)(vs:List Value):Option Blk->OR μ
 |some (.cells c sz opn true)=>qR m n b sz opn undef (bit b) (setCells c o vs)
 |_=>.no
noncomputable def stV(k:Nat)(vs:List Value)(m:μ)(n:Nat):Value->OR μ
 | .pointer (some ⟨b,o,none⟩)=>cond (Nat.beq (gx vs) k&&vs.all one) (stC m n b o vs (fg m n b)) .no
 |_=>.no
def Ap(m:μ)(n sz len:Nat):Option (List Value)->OR μ
 |some c=>kZ m n (.cells c sz false true) (yb 0 len len)
 |none=>.no
noncomputable def mE(z:List Value)(n:Nat):List Value:=Nat.rec (motive:=fun _=>List Value) [] (fun _ l=>z++l) n
noncomputable def rX(sz bytes:Nat)(z:List Value)(m:μ)(n:Nat):Option Nat->Option Nat->OR μ
 |some l,some c=>cond (Nat.ble l c&&Nat.ble (Nat.mul c bytes) 281474976710656&&Nat.ble c 1099511627776) (kZ m n (.cells (mE z c) sz false true) (yb 0 l c)) .no
 |_,_=>.no
def szF(s sz:Nat):Bool:=Nat.beq s sz || Nat.beq s 0
noncomputable def oH(sz o l b:Nat):Option Blk->Option (List Value×Nat)
 |some (.cells c s _ _)=>cond (szF s sz) (Option.rec (motive:=fun _=>Option (List Value×Nat)) none (fun x=>some (x,bit b)) (eO c o (Nat.mul l sz))) none
 |_=>none
noncomputable def shown(m:μ)(n sz:Nat):Value->Option (List Value×Nat)
 | .slice none 0 0=>some ([],0)
 | .slice (some ⟨b,o,none⟩) l _=>cond (Nat.beq l 0) (some ([],0)) (oH sz o l b (fg m n b))
 |_=>none
def vu(m:μ)(n sz len:Nat)(c:List Value)(r:Nat):OR μ:=
 cond (AMem.lim m n) (.ok (yb 0 len UNK n) (AMem.put m n (some (.cells c sz true true))) (Nat.succ n) r (bit n)) .no
def rq(m:μ)(n sz len:Nat)(c:List Value)(r:Nat)(ax:Addr):Option Blk->OR μ
 |some (.cells _ s true true)=>cond (AMem.lim m n&&Nat.beq s sz)
   (.ok (yb 0 len UNK n) (AMem.put (AMem.put m ax.block none) n (some (.cells c sz true true))) (Nat.succ n) r (Nat.lor (bit ax.block) (bit n))) .no
 |_=>.no
noncomputable def Gk(m:μ)(n sz lx len cx:Nat)(b:List Value)(r:Nat)(bx ox:Nat):Option Blk->OR μ
 |some (.cells c s opn true)=>qR m n bx s opn (yb ox len cx bx) r (setCells c (Nat.add ox (Nat.mul lx sz)) b)
 |_=>.no
noncomputable def yW(m:μ)(n sz lx ly cx:Nat)(a b:List Value)(r:Nat):Option Addr->OR μ
 |none=>cond (Nat.beq ly 0) (.ok (.slice none 0 0) m n r 0) (vu m n sz (Nat.add lx ly) (a++b) r)
 |some ⟨bx,ox,none⟩=>cond (Nat.beq cx VAG) .no (cond (Nat.beq cx UNK) (rq m n sz (Nat.add lx ly) (a++b) r ⟨bx,ox,none⟩ (fg m n bx))
   (cond (Nat.ble (Nat.add lx ly) cx) (Gk m n sz lx (Nat.add lx ly) cx b r bx ox (fg m n bx)) (vu m n sz (Nat.add lx ly) (a++b) r)))
 |_=>.no
noncomputable def Da(sz bytes:Nat)(m:μ)(n:Nat)(a:List Value×Nat)(b:List Value×Nat):Value->Value->OR μ
 | .slice ax lx cx,.slice _ ly _=>
  cond (b.1.all one&&Nat.blt 0 sz&&Nat.blt 0 bytes&&Nat.ble (Nat.mul (Nat.add lx ly) bytes) 140737488355328)
   (yW m n sz lx ly cx a.1 b.1 (Nat.lor a.2 b.2) ax) .no
 |_,_=>.no
noncomputable def jq(sz bytes:Nat)(m:μ)(n:Nat)(x y:Value):Option (List Value×Nat)->Option (List Value×Nat)->OR μ
 |some a,some b=>Da sz bytes m n a b x y
 |_,_=>.no
def mapP(b:Nat):Value:=.map (some b)
def jt(ks:List Value):List MapEntry:=ks.map fun k=>⟨k,undef,0⟩
def gk(P:Program)(e:Bool)(kt:Nat)(k:Value)(ks:List Value):Option (Option Nat):=
 (dG P (do Instr.checkKey e 10000 kt k;Instr.findKey kt k (jt ks))).map fun r=>r.map (·.1)
def oA(ok:Bool)(v:Value)(t:Bool):Value:=cond ok (.tuple #[v,.bool t]) v
def wR(ok:Bool)(z:Value)(es:List (Value×Value)):Option (Option Nat)->Option Value
 |some none=>some (oA ok z false)
 |some (some i)=>(es[i]?).map fun p=>oA ok p.2 true
 |none=>none
def kG(P:Program)(kt:Nat)(z:Value)(ok:Bool)(m:μ)(n b:Nat)(k:Value):Option Blk->OR μ
 |some (.map es)=>lP m n b (wR ok z es (gk P es.isEmpty kt k (es.map (·.1))))
 |_=>.no
def Ks(k v:Value)(es:List (Value×Value)):Option (Option Nat)->Option (List (Value×Value))
 |some none=>some (es++[(k,v)])
 |some (some i)=>match es[i]? with
  |some p=>cond (Instr.sameBits 10000 p.1 k) (some (es.set i (k,v))) none
  |none=>none
 |none=>none
def delE(es:List (Value×Value)):Option (Option Nat)->Option (List (Value×Value))
 |some none=>some es
 |some (some i)=>some (es.eraseIdx i)
 |none=>none
def yl(m:μ)(n b:Nat):Option (List (Value×Value))->OR μ
 |some es=>.ok undef (AMem.put m b (some (.map es))) n (bit b) (bit b)
 |none=>.no
def Fl(P:Program)(kt:Nat)(m:μ)(n b:Nat)(k v:Value):Option Blk->OR μ
 |some (.map es)=>yl m n b (Ks k v es (gk P false kt k (es.map (·.1))))
 |_=>.no
def Io(P:Program)(kt:Nat)(m:μ)(n b:Nat)(k:Value):Option Blk->OR μ
 |some (.map es)=>yl m n b (delE es (gk P es.isEmpty kt k (es.map (·.1))))
 |_=>.no
def Dn:List Value->Option (List Int)
 |[]=>some []
 | .int .u8 z::l=>match Dn l with
  |some zs=>some (z::zs)
  |none=>none
 |_=>none
def strOf(ns:List Int):ByteArray:=ns.foldl (fun r n=>r.push (UInt8.ofNat n.toNat)) ByteArray.empty
noncomputable def strV(c:List Value)(o l:Nat):Option Value:=match eO c o l with
 |some xs=>match Dn xs with
  |some zs=>some (.string (strOf zs))
  |none=>none
 |none=>none
noncomputable def GJ(m:μ)(n b o l:Nat):Option Blk->OR μ
 |some (.cells c sz _ _)=>cond (Nat.beq sz 1) (lP m n b (strV c o l)) .no
 |_=>.no
noncomputable def Lx(m:μ)(n b o sz k:Nat)(p:List Value×Nat):Option Blk->OR μ
 |some (.cells c s opn true)=>cond (Nat.beq s sz&&p.1.all one) (qR m n b s opn (.int .i64 (k:Int)) (Nat.lor p.2 (bit b)) (setCells c o p.1)) .no
 |_=>.no
noncomputable def CQ(sz:Nat)(m:μ)(n:Nat)(y:Option (List Value×Nat)):Value->Value->OR μ
 | .slice (some ⟨b,o,none⟩) l _,.slice _ k _=>match y with
  |some p=>cond (Nat.ble k l&&Nat.blt 0 k) (Lx m n b o sz k p (fg m n b)) .no
  |none=>.no
 |_,_=>.no
noncomputable def uw(op:MOp)(xs:List Value)(m:μ)(n:Nat):OR μ:=match op,xs with
 | .mk,[]=>kZ m n (.map []) mapP
 | .look kt z ok,[x,k]=>cond (du k) (match x with
  | .map none=>eG m n (wR ok z [] (gk P true kt k []))
  | .map (some b)=>kG P kt z ok m n b k (fg m n b)
  |_=>.no) .no
 | .upd kt,[x,k,v]=>cond (du k) (match x with
  | .map (some b)=>Fl P kt m n b k v (fg m n b)
  |_=>.no) .no
 | .del kt,[x,k]=>cond (du k) (match x with
  | .map (some b)=>Io P kt m n b k (fg m n b)
  |_=>.no) .no
 | .str,[x]=>match x with
  | .slice (some ⟨b,o,none⟩) (l+1) _=>GJ m n b o (l+1) (fg m n b)
  |_=>.no
 | .cpy sz,[x,y]=>CQ sz m n (shown m n sz y) x y
 |_,_=>.no
def ju(rec:Nat->List Value->μ->Nat->OR μ)(args:List Value)(m:μ)(n:Nat):Value->OR μ
 | .func (.func f) a c=>rec f (a.toList++args++c.toList) m n
 |_=>.no
noncomputable def evs(e:List Value)(l:List Opd):List Value:=List.rec (motive:=fun _=>List Value) [] (fun x _ r=>ev e x::r) l
noncomputable def kU(e:List Value)(l:List (Nat×Nat×Opd)):List (Nat×Nat×Value):=List.rec (motive:=fun _=>List (Nat×Nat×Value)) [] (fun p _ r=>(p.1,p.2.1,ev e p.2.2)::r) l
noncomputable def iV(sz:Nat)(e:List Value)(l:List (Nat×Opd)):List (Nat×Nat×Value):=List.rec (motive:=fun _=>List (Nat×Nat×Value)) [] (fun p _ r=>(Nat.mul p.1 sz,sz,ev e p.2)::r) l
noncomputable def oev(e:List Value)(x:Option Opd):Option Value:=Option.rec (motive:=fun _=>Option Value) none (fun x=>some (ev e x)) x
noncomputable def dJ(rec:Nat->List Value->μ->Nat->OR μ)(e:List Value)(m:μ)(n:Nat)(op:AOp):OR μ:=
 AOp.rec (motive:=fun _=>OR μ)
  (fun x=>.ok (ev e x) m n 0 0)
  (fun c a b=>eG m n (Aa (ev e a) (ev e b) (ev e c)))
  (fun op t x y=>eG m n (ji P op t (ev e x) (ev e y)))
  (fun op x=>eG m n (zz op (ev e x)))
  (fun k x=>eG m n (iO k (ev e x)))
  (fun off x=>eG m n (F1 off (ev e x)))
  (fun sz x i=>eG m n (rS (fun i=>fU sz i (ev e x)) (eN (ev e i))))
  (fun k sz x i=>eG m n (rS (fun i=>FU k sz i (ev e x)) (eN (ev e i))))
  (fun z ps=>eG m n (qq (jW (kU e ps) z)))
  (fun i x=>eG m n (xl i (ev e x)))
  (fun x=>eG m n (qW (ev e x)))
  (fun f a c=>.ok (.func (.func f) (evs e a).toArray (evs e c).toArray) m n 0 0)
  (fun s x=>eG m n (jS s (ev e x)))
  (fun x y=>eG m n (mxV (ev e x) (ev e y)))
  (fun sz x lo hi=>kP m n sz (jK sz (oev e lo) (oev e hi) (ev e x)) (ev e x))
  (fun c=>kZ m n (.cells c 0 false true) iU)
  (fun x=>kZ m n (.cells (ev e x).cells.toList 0 false true) iU)
  (fun sz len z ps=>Ap m n sz len (jW (iV sz e ps) (mE z len)))
  (fun sz bytes z l c=>rX sz bytes z m n (eN (ev e l)) (eN (ev e c)))
  (fun x=>rh m n (ev e x))
  (fun k x=>vR k m n (ev e x))
  (fun k x y=>stV k (ev e y).cells.toList m n (ev e x))
  (fun sz bytes x y=>jq sz bytes m n (ev e x) (ev e y) (shown m n sz (ev e x)) (shown m n sz (ev e y)))
  (fun f args=>rec f (evs e args) m n)
  (fun x args=>ju rec (evs e args) m n (ev e x))
  (fun op xs=>eG m n (purV P op (evs e xs)))
  (fun op xs=>uw P op (evs e xs) m n)
  op
def dQ(w:Bool):Value->Bool
 | .bool b=>cond w b (!b)
 |_=>false
noncomputable def gq(x:OR μ)(f:Value->μ->Nat->Nat->Nat->CR μ):CR μ:=OR.rec (motive:=fun _=>CR μ) .no f x
def sn(e:List Value)(m:μ)(n r w:Nat):CR μ:=jV r fun r=>jV w fun w=>.ok .norm e m n r w
noncomputable def gD(rec:Nat->List Value->μ->Nat->OR μ)(l:List AI):List Value->μ->Nat->Nat->Nat->CR μ:=
 List.rec (motive:=fun _=>List Value->μ->Nat->Nat->Nat->CR μ) sn
  (fun i _ ih e m n r w=>AI.rec (motive:=fun _=>CR μ)
   (fun _=>ih e m n r w)
   (fun o=>gq (dJ P rec e m n o) fun v m n r' w'=>ih (v::e) m n (Nat.lor r r') (Nat.lor w w'))
   (fun o gi gw=>cond (dQ gw (ey e gi)) (gq (dJ P rec e m n o) fun v m n r' w'=>ih (v::e) m n (Nat.lor r r') (Nat.lor w w')) (ih (undef::e) m n r w))
   (fun o=>gq (dJ P rec e m n o) fun _ m n r' w'=>ih e m n (Nat.lor r r') (Nat.lor w w'))
   (fun o gi gw=>cond (dQ gw (ey e gi)) (gq (dJ P rec e m n o) fun _ m n r' w'=>ih e m n (Nat.lor r r') (Nat.lor w w')) (ih e m n r w))
   i) l
def apart(bef r w:Nat):List (Nat×Nat×Nat)->Bool
 |[]=>true
 |(i,r',w')::l=>(Nat.testBit bef i || (Nat.beq (Nat.land w (Nat.lor r' w')) 0&&Nat.beq (Nat.land w' r) 0))&&apart bef r w l
def dd:AOp->List Opd
 | .mov x | .una _ x | .conv _ x | .fld _ x | .extr _ x | .nilck x | .len _ x | .box x | .ld1 x | .ldn _ x=>[x]
 | .pick a b c=>[a,b,c]
 | .bin _ _ x y | .idx _ x y | .ida _ _ x y | .mx x y | .make _ _ _ x y | .st _ x y | .app _ _ x y=>[x,y]
 | .build _ ps=>ps.map fun p=>p.2.2
 | .mkl _ _ _ ps=>ps.map fun p=>p.2
 | .func _ a c=>a++c
 | .slc _ x lo hi=>x::(lo.toList++hi.toList)
 | .new _=>[]
 | .call _ asl=>asl
 | .callv x asl=>x::asl
 | .pur _ xs=>xs
 | .mp _ xs=>xs
def gQ(n:Nat):Value->Bool
 | .pointer (some a)=>Nat.blt a.block n
 | .slice (some a) _ _=>Nat.blt a.block n
 | .map (some b)=>Nat.blt b n
 |v=>flat v
def jn(n:Nat):Value->Bool
 | .agg cs=>cs.toList.all (gQ n)
 |v=>gQ n v
def et(n:Nat):Value->Bool
 | .agg cs=>cs.toList.all (gQ n)
 | .tuple cs=>cs.toList.all (jn n)
 | .func (.func _) a c=>a.toList.all (jn n)&&c.toList.all (jn n)
 |v=>gQ n v
noncomputable def j8(n:Nat)(e:List Value)(o:AOp):Bool:=(dd o).all fun x=>et n (ev e x)
noncomputable def okD(bef k:Nat)(done:List (Nat×Nat×Nat))(x:OR μ)(f:Value->μ->Nat->Nat->Nat->List (Nat×Nat×Nat)->CR μ):CR μ:=
 gq x fun v m n r w=>jV r fun r=>jV w fun w=>cond (Nat.beq (Nat.lor r w) 0) (f v m n r w done) (cond (apart bef r w done) (f v m n r w ((k,r,w)::done)) .no)
noncomputable def eH(rec:Nat->List Value->μ->Nat->OR μ)(e:List Value)(m:μ)(n:Nat)(o:AOp):OR μ:=cond (j8 n e o) (dJ P rec e m n o) .no
noncomputable def fH(rec:Nat->List Value->μ->Nat->OR μ)(l:List AI):List Nat->Nat->List (Nat×Nat×Nat)->List Value->μ->Nat->Nat->Nat->CR μ:=
 List.rec (motive:=fun _=>List Nat->Nat->List (Nat×Nat×Nat)->List Value->μ->Nat->Nat->Nat->CR μ) (fun _ _ _=>sn)
  (fun i _ ih bs k done e m n r w=>AI.rec (motive:=fun _=>CR μ)
   (fun _=>ih bs.tail (Nat.succ k) done e m n r w)
   (fun o=>okD (bs.headD 0) k done (eH P rec e m n o) fun v m n r' w' done=>ih bs.tail (Nat.succ k) done (v::e) m n (Nat.lor r r') (Nat.lor w w'))
   (fun o gi gw=>cond (dQ gw (ey e gi)) (okD (bs.headD 0) k done (eH P rec e m n o) fun v m n r' w' done=>ih bs.tail (Nat.succ k) done (v::e) m n (Nat.lor r r') (Nat.lor w w')) (ih bs.tail (Nat.succ k) done (undef::e) m n r w))
   (fun o=>okD (bs.headD 0) k done (eH P rec e m n o) fun _ m n r' w' done=>ih bs.tail (Nat.succ k) done e m n (Nat.lor r r') (Nat.lor w w'))
   (fun o gi gw=>cond (dQ gw (ey e gi)) (okD (bs.headD 0) k done (eH P rec e m n o) fun _ m n r' w' done=>ih bs.tail (Nat.succ k) done e m n (Nat.lor r r') (Nat.lor w w')) (ih bs.tail (Nat.succ k) done e m n r w))
   i) l
noncomputable def KL(vs:List Value)(r b:Nat)(f:List Value->Option Value)(B:Option Blk):Option (List Value×Nat):=
 Option.rec (motive:=fun _=>Option (List Value×Nat)) none (fun B=>Blk.rec (motive:=fun _=>Option (List Value×Nat)) (fun c _ _ _=>Option.rec (motive:=fun _=>Option (List Value×Nat)) none (fun v=>some (v::vs,Nat.lor r (bit b))) (f c)) (fun _=>none) B) B
noncomputable def ua(m:μ)(n:Nat)(vs:List Value)(r:Nat)(f:Nat->List Value->Option Value):Value->Option (List Value×Nat)
 | .pointer (some ⟨b,o,none⟩)=>KL vs r b (f o) (fg m n b)
 |_=>none
noncomputable def yj(e:List Value)(m:μ)(n:Nat)(vs:List Value)(r:Nat):ROp->Option (List Value×Nat)
 | .v i=>some (ey e i::vs,r)
 | .cell i=>ua m n vs r (fun o c=>fh c o) (ey e i)
 | .cells i k=>ua m n vs r (fun o c=>qq (eO c o k)) (ey e i)
noncomputable def lq(e:List Value)(m:μ)(n:Nat)(l:List ROp):Option (List Value×Nat):=
 List.rec (motive:=fun _=>Option (List Value×Nat)) (some ([],0))
  (fun x _ ih=>Option.rec (motive:=fun _=>Option (List Value×Nat)) none (fun p=>yj e m n p.1 p.2 x) ih) l
def tY:List Value->Value
 |[v]=>v
 |l=>.tuple l.toArray
structure AFn where
 na:Nat
 endrs:List ROp
 code:AC
def eX(m0:μ)(n0:Nat)(v:Value)(m:μ)(n r w:Nat):OR μ:=
 cond (du v&&Nat.beq (Nat.mod w (bit n0)) 0) (jV (Nat.mod r (bit n0)) fun r=>.ok v m0 n0 r 0) (.ok v m n r w)
noncomputable def AV(sel:List Nat)(d:Nat)(e:List Value):List Value:=Cv e sel (lE e d)
def oN(m0:μ)(n0:Nat)(m:μ)(n r w:Nat):Option (List Value×Nat)->OR μ
 |some (vs,r')=>eX m0 n0 (tY vs) m n (Nat.lor r r') w
 |none=>.no
noncomputable def ig(fn:AFn)(m0:μ)(n0:Nat)(e:List Value)(m:μ)(n r w:Nat):AX->OR μ
 | .norm=>oN m0 n0 m n r w (lq e m n fn.endrs)
 | .ret v=>eX m0 n0 v m n r w
 | .exit _=>.no
noncomputable def mB(rec:AC->List Value->μ->Nat->CR μ)(args:List Value)(m:μ)(n:Nat)(fn:AFn):OR μ:=
 cond (Nat.beq (gx args) fn.na) (CR.rec (motive:=fun _=>OR μ) .no (fun x e m' n' r w=>ig fn m n e m' n' r w x) (rec fn.code args m n)) .no
noncomputable def dX(E:Nat->Option AFn)(Y:Nat->List Value->μ->Nat->OR μ)(rec:AC->List Value->μ->Nat->CR μ)(f:Nat)(args:List Value)(m:μ)(n:Nat):OR μ:=
 Option.rec (motive:=fun _=>OR μ) (Y f args m n) (mB rec args m n) (E f)
noncomputable def fY(x:CR μ)(f:AX->List Value->μ->Nat->Nat->Nat->CR μ):CR μ:=CR.rec (motive:=fun _=>CR μ) .no f x
def fP(r w:Nat):CR μ->CR μ
 | .ok x e m n r' w'=>.ok x e m n (Nat.lor r r') (Nat.lor w w')
 | .no=>.no
def fI(f:List Value->μ->Nat->CR μ)(x:AX)(e:List Value)(m:μ)(n r w:Nat):CR μ:=
 match x with
 | .norm=>fP r w (f e m n)
 |x=>.ok x e m n r w
def ic(a b:CR μ):Value->CR μ
 | .bool t=>cond t a b
 |_=>.no
def kx(id:Nat)(x:AX)(e:List Value)(m:μ)(n r w:Nat):CR μ:=
 match x with
 | .exit i=>cond (Nat.beq i id) (.ok .norm e m n r w) (.ok (.exit i) e m n r w)
 |x=>.ok x e m n r w
noncomputable def mZ(sel:List Nat)(d:Nat)(x:AX)(e:List Value)(m:μ)(n r w:Nat):CR μ:=
 match x with
 | .norm=>.ok .norm (AV sel d e) m n r w
 |x=>.ok x e m n r w
def ov(e:List Value)(m:μ)(n:Nat):Option (List Value×Nat)->CR μ
 |some (vs,r)=>.ok (.ret (tY vs)) e m n r 0
 |none=>.no
noncomputable def Ev(E:Nat->Option AFn)(Y:Nat->List Value->μ->Nat->OR μ)(rec:AC->List Value->μ->Nat->CR μ)(c:AC)(e:List Value)(m:μ)(n:Nat):CR μ:=
 AC.casesOn (motive:=fun _=>CR μ) c
  (.ok .norm e m n 0 0)
  (fun l=>gD P (dX E Y rec) l e m n 0 0)
  (fun l bs=>fH P (dX E Y rec) l bs 0 [] e m n 0 0)
  (fun a b=>fY (rec a e m n) (fI (rec b)))
  (fun x a b=>ic (rec a e m n) (rec b e m n) (ev e x))
  (fun id _ b=>fY (rec b e m n) (kx id))
  (fun sh b=>fY (rec b e m n) (fI (rec (.loop sh b))))
  (fun sel d c=>rec c (AV sel d e) m n)
  (fun c sel d=>fY (rec c e m n) (mZ sel d))
  (fun id=>.ok (.exit id) e m n 0 0)
  (fun rs=>ov e m n (lq e m n rs))
noncomputable def exec(E:Nat->Option AFn)(Y:Nat->List Value->μ->Nat->OR μ)(k:Nat):AC->List Value->μ->Nat->CR μ:=
 Nat.rec (motive:=fun _=>AC->List Value->μ->Nat->CR μ) (fun _ _ _ _=>.no) (fun _ ih=>Ev P E Y ih) k
end
def NH(w:World):Prop:=∀p∈Ol,∀(i:Nat) (x:Value),p.2[i]?=some x->w.cell? ⟨p.1,i,none⟩=some x
open Go Go.RowKit
def kl(B:Nat)(w:World):Prop:=∀w',Below B w w'->NH w'
theorem kl.here{B:Nat}{w:World}(h:kl B w):NH w:=h w (Below.refl B w)
theorem kl.up{B B':Nat}{w:World}(h:kl B w)(hb:B<=B'):kl B' w:=fun w' h'=>h w' (h'.mono hb)
theorem kl.mono{B:Nat}{w w':World}(h:kl B w)(hb:Below B w w'):kl B w':=fun w'' h'=>h w'' (hb.trans h')
structure Place where
 blk:Nat
 base:Nat
 cap:Nat
 sz:Nat
abbrev Ren:=Nat->Option Place
inductive VRel(ρ:Ren):Value->Value->Prop where
 |flat {v:Value} (h:flat v=true):VRel ρ v v
 |ptr {b o:Nat} {p:Place} (h:ρ b=some p):VRel ρ (.pointer (some ⟨b,o,none⟩)) (.pointer (some ⟨p.blk,p.base+o,none⟩))
 |slice {b o n c c':Nat} {p:Place} (h:ρ b=some p) (hn:n<=c') (hu:c=UNK->o+c'*p.sz=p.cap) (hk:c≠UNK->c'=c) (hv:c≠VAG):
   VRel ρ (.slice (some ⟨b,o,none⟩) n c) (.slice (some ⟨p.blk,p.base+o,none⟩) n c')
 |map {b:Nat} {p:Place} (h:ρ b=some p):VRel ρ (.map (some b)) (.map (some p.blk))
 |vag {b o c':Nat} {a':Addr}:VRel ρ (.slice (some ⟨b,o,none⟩) 0 VAG) (.slice (some a') 0 c')
 |func {f:Nat} {a a' c c':Array Value} (h1:a.size=a'.size) (h2:∀(i:Nat) x y,a[i]?=some x->a'[i]?=some y->VRel ρ x y)
   (h3:c.size=c'.size) (h4:∀(i:Nat) x y,c[i]?=some x->c'[i]?=some y->VRel ρ x y):VRel ρ (.func (.func f) a c) (.func (.func f) a' c')
 |agg {a a':Array Value} (h1:a.size=a'.size) (h2:∀(i:Nat) x y,a[i]?=some x->a'[i]?=some y->VRel ρ x y):VRel ρ (.agg a) (.agg a')
 |tuple {a a':Array Value} (h1:a.size=a'.size) (h2:∀(i:Nat) x y,a[i]?=some x->a'[i]?=some y->VRel ρ x y):VRel ρ (.tuple a) (.tuple a')
 |opq {t:TypeId} {x:Value}:VRel ρ (.iface 0 .nilIface) (.iface t x)
def Ren.le(ρ ρ':Ren):Prop:=∀b p,ρ b=some p->ρ' b=some p
theorem Ren.le_refl(ρ:Ren):ρ.le ρ:=fun _ _ h=>h
theorem Ren.le_trans{a b c:Ren}(h:a.le b)(k:b.le c):a.le c:=fun x p e=>k x p (h x p e)
theorem VRel.mono{ρ ρ':Ren}(hl:ρ.le ρ'){v v':Value}(h:VRel ρ v v'):VRel ρ' v v':=by
 induction h with
 |flat h=>exact .flat h
 |ptr h=>exact .ptr (hl _ _ h)
 |slice h hn hu hk hv=>exact .slice (hl _ _ h) hn hu hk hv
 |map h=>exact .map (hl _ _ h)
 |opq=>exact .opq
 |vag=>exact .vag
 |func h1 _ h3 _ i1 i2=>exact .func h1 i1 h3 i2
 |agg h1 _ ih=>exact .agg h1 ih
 |tuple h1 _ ih=>exact .tuple h1 ih
def dO(ρ:Ren)(l l':List Value):Prop:=l.length=l'.length/\∀(i:Nat) x y,l[i]?=some x->l'[i]?=some y->VRel ρ x y
theorem dO.mono{ρ ρ':Ren}(hl:ρ.le ρ'){l l':List Value}(h:dO ρ l l'):dO ρ' l l':=⟨h.1,fun i x y a b=>(h.2 i x y a b).mono hl⟩
theorem dO.nil(ρ:Ren):dO ρ [] []:=⟨rfl,fun i x y h=>by simp at h⟩
theorem dO.cons{ρ:Ren}{x y:Value}{l l':List Value}(h:VRel ρ x y)(hl:dO ρ l l'):dO ρ (x::l) (y::l'):=
 ⟨by simp[hl.1],fun i a b ha hb=>by
  cases i with
  |zero=>simp at ha hb;subst ha;subst hb;exact h
  |succ i=>simp at ha hb;exact hl.2 i a b ha hb⟩
theorem dO.head{ρ:Ren}{x y:Value}{l l':List Value}(h:dO ρ (x::l) (y::l')):VRel ρ x y/\dO ρ l l':=
 ⟨h.2 0 x y rfl rfl,by simpa using h.1,fun i a b ha hb=>h.2 (i+1) a b (by simpa using ha) (by simpa using hb)⟩
theorem dO.cases{ρ:Ren}{P:List Value->List Value->Prop}{l l':List Value}(h:dO ρ l l')(h0:P [] [])(h1:∀x y l l',VRel ρ x y->dO ρ l l'->P (x::l) (y::l')):P l l':=by
 cases l with
 |nil=>cases l' with
  |nil=>exact h0
  |cons y l'=>have:=h.1;simp at this
 |cons x l=>cases l' with
  |nil=>have:=h.1;simp at this
  |cons y l'=>exact h1 x y l l' h.head.1 h.head.2
theorem dO.induct{ρ:Ren}{P:List Value->List Value->Prop}(h0:P [] [])(h1:∀x y l l',VRel ρ x y->dO ρ l l'->P l l'->P (x::l) (y::l')):
  ∀{l l':List Value},dO ρ l l'->P l l'
 |[],[],_=>h0
 |[],_::_,h=>by have:=h.1;simp at this
 |_::_,[],h=>by have:=h.1;simp at this
 |_::_,_::_,h=>h1 _ _ _ _ h.head.1 h.head.2 (dO.induct h0 h1 h.head.2)
theorem dO.append{ρ:Ren}{a a' b b':List Value}(h:dO ρ a a')(k:dO ρ b b'):dO ρ (a++b) (a'++b'):=by
 exact dO.induct (P:=fun a a'=>dO ρ (a++b) (a'++b')) k (fun x y l l' hx _ ih=>.cons hx ih) h
theorem dO.get{ρ:Ren}{l l':List Value}(h:dO ρ l l'){i:Nat}{x:Value}(hx:l[i]?=some x):∃y,l'[i]?=some y/\VRel ρ x y:=by
 have hi:i<l.length:=(List.getElem?_eq_some_iff.1 hx).1
 have hi':i<l'.length:=by rw[<-h.1];exact hi
 exact⟨l'[i],List.getElem?_eq_getElem hi',h.2 i _ _ hx (List.getElem?_eq_getElem hi')⟩
theorem dO.agg{ρ:Ren}{l l':List Value}(h:dO ρ l l'):VRel ρ (.agg l.toArray) (.agg l'.toArray):=
 .agg (by simp[h.1]) fun i x y hx hy=>h.2 i x y (by simpa using hx) (by simpa using hy)
theorem dO.tuple{ρ:Ren}{l l':List Value}(h:dO ρ l l'):VRel ρ (.tuple l.toArray) (.tuple l'.toArray):=
 .tuple (by simp[h.1]) fun i x y hx hy=>h.2 i x y (by simpa using hx) (by simpa using hy)
theorem dO.of_array{ρ:Ren}{a a':Array Value}(h1:a.size=a'.size)(h2:∀(i:Nat) x y,a[i]?=some x->a'[i]?=some y->VRel ρ x y):dO ρ a.toList a'.toList:=
 ⟨by simpa using h1,fun i x y hx hy=>h2 i x y (by simpa using hx) (by simpa using hy)⟩
theorem VRel.undef(ρ:Ren):VRel ρ undef undef:=.tuple rfl fun i x y h=>by simp at h
theorem VRel.bool(ρ:Ren)(b:Bool):VRel ρ (.bool b) (.bool b):=.flat rfl
theorem VRel.int(ρ:Ren)(k:IntKind)(b:Int):VRel ρ (.int k b) (.int k b):=.flat rfl
theorem VRel.cells{ρ:Ren}{v v':Value}(h:VRel ρ v v'):dO ρ v.cells.toList v'.cells.toList:=by
 cases h with
 |flat h=>
  cases v with
  |agg a=>simp[Am.flat]at h
  |_=>exact .cons (.flat h) (.nil ρ)
 |ptr h=>exact .cons (.ptr h) (.nil ρ)
 |slice h a b c d=>exact .cons (.slice h a b c d) (.nil ρ)
 |map h=>exact .cons (.map h) (.nil ρ)
 |opq=>exact .cons .opq (.nil ρ)
 |vag=>exact .cons .vag (.nil ρ)
 |func a b c d=>exact .cons (.func a b c d) (.nil ρ)
 |agg a b=>exact dO.of_array a b
 |tuple a b=>exact .cons (.tuple a b) (.nil ρ)
theorem VRel.dN{ρ:Ren}{v v':Value}(h:VRel ρ v v')(hf:Am.flat v=true):v'=v:=by
 cases h<;>simp_all [Am.flat]
theorem VRel.qh{ρ:Ren}{a a':Array Value}(h1:a.size=a'.size)(h2:∀(i:Nat) x y,a[i]?=some x->a'[i]?=some y->VRel ρ x y)(hf:a.toList.all Am.flat=true):a'=a:=by
 apply Array.ext h1.symm
 intro i hi hi'
 have hx:a[i]?=some a[i]:=Array.getElem?_eq_getElem hi'
 have hy:a'[i]?=some a'[i]:=Array.getElem?_eq_getElem hi
 refine(h2 i _ _ hx hy).dN ?_
 rw[List.all_eq_true]at hf
 exact hf _ (by simp)
theorem VRel.nY{ρ:Ren}{v v':Value}(h:VRel ρ v v')(hf:du v=true):v'=v:=by
 cases h with
 |flat _=>rfl
 |ptr _=>simp[du,Am.flat]at hf
 |slice _ _ _ _ _=>simp[du,Am.flat]at hf
 |map _=>simp[du,Am.flat]at hf
 |opq=>simp[du,Am.flat]at hf
 |vag=>simp[du,Am.flat]at hf
 |func h1 h2 h3 h4=>
  rename_i f a a' c c'
  have ha:a=#[]:=by
   cases a with|mk l=>cases l with
    |nil=>rfl
    |cons x l=>simp[du]at hf
  have hc:c=#[]:=by
   subst ha
   cases c with|mk l=>cases l with
    |nil=>rfl
    |cons x l=>simp[du]at hf
  subst ha;subst hc
  have e1:a'=#[]:=by simpa using h1.symm
  have e2:c'=#[]:=by simpa using h3.symm
  rw[e1,e2]
 |agg h1 h2=>exact congrArg _ (VRel.qh h1 h2 (by simpa[du]using hf))
 |tuple h1 h2=>exact congrArg _ (VRel.qh h1 h2 (by simpa[du]using hf))
theorem VRel.one{ρ:Ren}{v v':Value}(h:VRel ρ v v')(ho:Am.one v=true):v'.oneCell'=true:=by
 cases h with
 |flat h=>cases v<;>simp_all [Am.one,Value.oneCell',Am.flat]
 |ptr h=>rfl
 |slice h a b c d=>rfl
 |map h=>rfl
 |opq=>rfl
 |vag=>rfl
 |func a b c d=>rfl
 |agg a b=>simp[Am.one]at ho
 |tuple a b=>simp[Am.one]at ho
def Bn(es:Array MapEntry)(c:Nat):Prop:=(∀x∈es.toList,x.born<c)/\(es.toList.map (·.born)).Nodup
def jC(ρ:Ren)(w:World)(B:Nat)(p:Place):Blk->Prop
 | .cells c sz opn wr=>p.sz=sz/\∃cc e fz,w.heap[p.blk]?=some (.cells cc e fz)/\
   (∀(i:Nat) x,c[i]?=some x->∃y,cc[p.base+i]?=some y/\VRel ρ x y)/\(wr=true->B<=p.blk/\fz=(0,0))/\(opn=true->p.base+p.cap<=cc.size)/\p.base+c.length<=cc.size
 | .map es=>B<=p.blk/\∃es' clock,w.heap[p.blk]?=some (.map es' clock)/\es'.toList.map (·.key)=es.map (·.1)/\dO ρ (es.map (·.2)) (es'.toList.map (·.val))/\Bn es' clock
def Blk.sz:Blk->Nat
 | .cells _ sz _ _=>sz
 | .map _=>0
def Blk.wr:Blk->Bool
 | .cells _ _ _ wr=>wr
 | .map _=>true
structure MRel(ρ:Ren)(V:Nat->Option Blk)(w:World)(B:Nat):Prop where
 blk:∀b p O,ρ b=some p->V b=some O->jC ρ w B p O
 excl:∀b1 b2 p1 p2 O1 O2,ρ b1=some p1->ρ b2=some p2->V b1=some O1->V b2=some O2->b1≠b2->O1.wr=true->p1.blk≠p2.blk
 fresh:∀b p,ρ b=some p->p.blk<w.heap.size
 le:B<=w.heap.size
 gl:kl B w
theorem jC.mono{ρ ρ':Ren}(hl:ρ.le ρ'){w w':World}{B:Nat}{p:Place}{O:Blk}(h:jC ρ w B p O)(hw:w'.heap[p.blk]?=w.heap[p.blk]?):jC ρ' w' B p O:=by
 cases O with
 |cells c sz opn wr=>
  obtain⟨h1,cc,e,fz,h2,h3,h4⟩:=h
  exact⟨h1,cc,e,fz,hw.trans h2,fun i x hx=>let⟨y,a,b⟩:=h3 i x hx;⟨y,a,b.mono hl⟩,h4⟩
 |map es=>
  obtain⟨h1,es',cl,h2,h3,h4,h5⟩:=h
  exact⟨h1,es',cl,hw.trans h2,h3,h4.mono hl,h5⟩
def upd{μ:Type}[AMem μ](V:Nat->Option Blk)(W:Nat)(m:μ):Nat->Option Blk:=fun b=>if W.testBit b then AMem.get m b else V b
def eI{μ:Type}[AMem μ](V:Nat->Option Blk)(m:μ)(n F:Nat):Prop:=∀b,b<n->F.testBit b=true->V b=AMem.get m b
structure Post{μ:Type}[AMem μ](ρ:Ren)(V:Nat->Option Blk)(w:World)(B n:Nat)(m':μ)(n' W:Nat)(ρ':Ren)(w':World):Prop where
 le:ρ.le ρ'
 dom:∀b p,ρ' b=some p->ρ b=some p\/(n<=b/\b<n')
 mrel:MRel ρ' (upd V W m') w' B
 below:Below B w w'
 num:n<=n'
 frame:∀k,k<w.heap.size->(∀b p,ρ b=some p->W.testBit b=true->p.blk≠k)->w'.heap[k]?=w.heap[k]?
 newp:∀b p,ρ' b=some p->ρ b=some p\/w.heap.size<=p.blk\/∃b0 p0,ρ b0=some p0/\W.testBit b0=true/\p0.blk=p.blk
 wold:∀b,W.testBit b=true->(∃p,ρ' b=some p)/\(b<n->∃O,V b=some O/\O.wr=true)
def gI(ρ:Ren)(n:Nat):Prop:=∀b,n<=b->ρ b=none
theorem dn(n b:Nat):(bit n).testBit b=decide (n=b):=by
 unfold bit;show(1 <<< n).testBit b=_
 rw[Nat.one_shiftLeft,Nat.testBit_two_pow]
theorem c9(a c b:Nat):(Nat.lor a c).testBit b=(a.testBit b || c.testBit b):=Nat.testBit_or ..
theorem pC{μ:Type}[AMem μ](V:Nat->Option Blk)(m:μ):upd V 0 m=V:=by funext b;simp[upd]
theorem pY(l:List Value)(i:Nat):ey l i=(l[i]?).getD undef:=by
 induction l generalizing i with
 |nil=>rfl
 |cons a l ih=>cases i with
  |zero=>rfl
  |succ i=>exact(ih i).trans (by simp)
theorem eV(l:List Value)(i:Nat):fh l i=l[i]?:=by
 induction l generalizing i with
 |nil=>rfl
 |cons a l ih=>cases i with
  |zero=>rfl
  |succ i=>exact(ih i).trans (by simp)
theorem jd(l:List Value)(i:Nat):lE l i=l.drop i:=by
 induction l generalizing i with
 |nil=>simp;rfl
 |cons a l ih=>cases i with
  |zero=>rfl
  |succ i=>exact(ih i).trans (by simp)
theorem yH(l:List Value):gx l=l.length:=by
 induction l with
 |nil=>rfl
 |cons a l ih=>show Nat.succ (gx l)=_;rw[ih];rfl
theorem qi(l:List Value)(n:Nat):oC l n=if n<=l.length then some (l.take n)else none:=by
 induction l generalizing n with
 |nil=>cases n with
  |zero=>rfl
  |succ n=>rfl
 |cons a l ih=>cases n with
  |zero=>rfl
  |succ n=>
   show jQ a (oC l n)=_
   rw[ih]
   by_cases h:n<=l.length
   ·simp[h,jQ]
   ·simp[h,jQ]
theorem iF{c:List Value}{o n:Nat}{l:List Value}(h:eO c o n=some l):o+n<=c.length+(if n=0 then o else 0)/\l.length=n/\∀j,j<n->l[j]?=c[o+j]?:=by
 unfold eO at h
 rw[qi,jd]at h
 split at h
 ·rename_i hn
  injection h with h;subst h
  simp at hn
  refine⟨by split<;>omega,by simp;omega,fun j hj=>?_⟩
  rw[List.getElem?_take,if_pos hj,List.getElem?_drop]
 ·cases h
theorem Ba(vs c:List Value):cover vs c=if vs.length<=c.length then some (vs++c.drop vs.length)else none:=by
 induction vs generalizing c with
 |nil=>simp;rfl
 |cons v vs ih=>cases c with
  |nil=>rfl
  |cons x c=>
   show jQ v (cover vs c)=_
   rw[ih]
   by_cases h:vs.length<=c.length<;>simp[h,jQ]
theorem eh(c:List Value)(i:Nat)(vs:List Value):setCells c i vs=if i+vs.length<=c.length then some (c.take i++vs++c.drop (i+vs.length))else none:=by
 induction c generalizing i with
 |nil=>cases i with
  |zero=>show cover vs []=_;rw[Ba];simp
  |succ i=>show none=_;simp
 |cons x c ih=>cases i with
  |zero=>show cover vs (x::c)=_;rw[Ba];simp
  |succ i=>
   show jQ x (setCells c i vs)=_
   rw[ih]
   have e:i+1+vs.length=i+vs.length+1:=by omega
   by_cases h:i+vs.length<=c.length
   ·simp[h,jQ,e]
   ·simp[h,jQ,e]
theorem yd{c d:List Value}{i:Nat}{vs:List Value}(h:setCells c i vs=some d):
  i+vs.length<=c.length/\d.length=c.length/\∀j,d[j]?=if i<=j/\j<i+vs.length then vs[j-i]? else c[j]?:=by
 rw[eh]at h
 split at h
 ·rename_i hl
  injection h with h;subst h
  refine⟨hl,by simp;omega,fun j=>?_⟩
  rw[List.append_assoc,List.getElem?_append]
  by_cases h1:j<i
  ·have:(c.take i).length=i:=by simp;omega
   rw[if_pos (by omega),if_neg (by omega),List.getElem?_take,if_pos h1]
  ·have h2:(c.take i).length=i:=by simp;omega
   rw[if_neg (by omega),h2,List.getElem?_append]
   by_cases h3:j<i+vs.length
   ·rw[if_pos (by omega),if_pos ⟨by omega,h3⟩]
   ·rw[if_neg (by omega),if_neg (by omega),List.getElem?_drop]
    congr 1;omega
 ·cases h
theorem K7(e:List Value)(sel:List Nat)(t:List Value):Cv e sel t=sel.map (ey e)++t:=by
 induction sel with
 |nil=>rfl
 |cons a l ih=>show ey e a::Cv e l t=_;rw[ih];rfl
theorem pO(z:List Value)(n:Nat):mE z n=(List.replicate n z).flatten:=by
 induction n with
 |zero=>rfl
 |succ n ih=>show z++mE z n=_;rw[ih];rfl
theorem iW(a b:Int):ltB a b=decide (a<b):=by
 cases a<;>cases b<;>simp only[ltB]<;>rw[Bool.eq_iff_iff]<;>simp[Nat.blt_eq]<;>omega
theorem np(a b:Int):eqB a b=decide (a=b):=by
 cases a<;>cases b<;>simp only[eqB]<;>rw[Bool.eq_iff_iff]<;>simp<;>omega
theorem ja{n:Int}(h:-9223372036854775808<=n)(h':n<9223372036854775808):IntKind.i64.wrap n=n:=by
 simp[IntKind.wrap,IntKind.signed,IntKind.bits]
 split<;>omega
theorem eW(k:IntKind)(n:Int):gn k n=k.wrap n:=by
 cases k<;>simp only[gn]
 cases h:H3 n
 ·rfl
 ·have:-9223372036854775808<=n/\n<9223372036854775808:=by
   cases n<;>simp[H3,Nat.blt_eq]at h<;>simp only[Int.ofNat_eq_natCast,Int.negSucc_eq]<;>omega
  exact(ja this.1 this.2).symm
theorem dT{α:Type}(n:Nat)(k:Nat->α):jV n k=k n:=by cases n<;>rfl
theorem xU{a b:Value}(h:Kq a b=true):a=b/\du a=true:=by
 unfold Kq at h
 split at h
 ·simp at h;subst h;exact⟨rfl,rfl⟩
 ·simp at h;obtain⟨rfl,rfl⟩:=h;exact⟨rfl,rfl⟩
 ·simp at h
  rename_i a b
  have:a=b:=by
   cases a with|mk a=>cases b with|mk b=>exact congrArg _ (Array.ext' (by simpa using h))
  subst this;exact⟨rfl,rfl⟩
 ·exact⟨rfl,rfl⟩
 ·exact⟨rfl,rfl⟩
 ·exact⟨rfl,rfl⟩
 ·exact⟨rfl,rfl⟩
 ·exact⟨rfl,rfl⟩
 ·rename_i f a c g a' c'
  simp at h
  obtain⟨⟨⟨⟨h1,h2⟩,h3⟩,h4⟩,h5⟩:=h
  subst h1
  subst h2;subst h3;subst h4;subst h5
  exact⟨rfl,rfl⟩
 ·cases h
theorem gN(ρ:Ren){v:Value}(h:du v=true):VRel ρ v v:=by
 have arr:∀{a:Array Value},a.toList.all flat=true->∀(i:Nat) x y,a[i]?=some x->a[i]?=some y->VRel ρ x y:=by
  intro a ha i x y hx hy
  rw[hx]at hy;injection hy with hy;subst hy
  rw[List.all_eq_true]at ha
  exact .flat (ha x (by have:=Array.mem_of_getElem? hx;simpa using this))
 cases v with
 |agg a=>exact .agg rfl (arr (by simpa[du]using h))
 |tuple a=>exact .tuple rfl (arr (by simpa[du]using h))
 |func fn a c=>
  cases fn<;>simp[du,flat]at h
  obtain⟨h1,h2⟩:=h
  subst h1;subst h2
  exact .func rfl (fun i x y h=>by simp at h) rfl (fun i x y h=>by simp at h)
 |_=>exact .flat (by simpa[du]using h)
theorem BS{a b:Value}(h:veq a b=true):a=b:=by
 have hl:∀{x y:List Value},mH x y=true->x=y:=by
  intro x
  induction x with
  |nil=>intro y h;cases y with
   |nil=>rfl
   |cons=>simp[mH]at h
  |cons x l ih=>intro y h;cases y with
   |nil=>simp[mH]at h
   |cons y l'=>simp[mH]at h;rw[(xU h.1).1,ih h.2]
 unfold veq at h
 split at h
 ·exact congrArg _ (Array.ext' (hl h))
 ·exact congrArg _ (Array.ext' (hl h))
 ·exact(xU h).1
abbrev Ctx:=List (List Nat)
def named(Γ:Ctx)(i t:Nat):Bool:=match Γ[i]? with|some l=>l.any (Nat.beq t)|none=>false
def dL(Γ:Ctx):Operand->Opd->Bool
 | .tmp t,.v i=>named Γ i t
 | .const v,.c x=>veq v x&&du x
 | .func f,.c x=>veq (.func (.func f) #[] #[]) x&&du x
 |_,_=>false
def iz(Γ:Ctx):List Operand->List Opd->Bool
 |[],[]=>true
 |a::asl,b::bs=>dL Γ a b&&iz Γ asl bs
 |_,_=>false
def ku(Γ:Ctx):Option Operand->Option Opd->Bool
 |none,none=>true
 |some a,some b=>dL Γ a b
 |_,_=>false
section
variable(P:Program)
def k8(t n:Nat):Bool:=match P.info? t with|some i=>i.size==n|none=>false
def ta(t n:Nat):Bool:=match P.info? t with|some i=>i.bytes==n|none=>false
def isZero(t:Nat)(z:List Value):Bool:=match P.info? t with
 |some i=>(match i.zero with|some v=>mH v.cells.toList z&&z.all flat&&z.all one|none=>false)
 |none=>false
def Eo(t:Nat)(z:Value):Bool:=match P.info? t with
 |some i=>(match i.zero with|some v=>veq v z&&du z|none=>false)
 |none=>false
def iD(t:Nat):Option Bool:=match P.underlying t with
 |some (.struct _)=>some true
 |some (.array _ _)=>some true
 |some _=>some false
 |none=>none
def kr(Γ:Ctx)(place:Nat->Option (Nat×Nat)):List (Nat×Operand)->List (Nat×Nat×Opd)->Bool
 |[],[]=>true
 |(i,x)::asl,(off,sz,y)::bs=>(match place i with|some (o,s)=>o==off&&s==sz|none=>false)&&dL Γ x y&&kr Γ place asl bs
 |_,_=>false
def jM(Γ:Ctx):List (Nat×Operand)->List (Nat×Opd)->Bool
 |[],[]=>true
 |(i,x)::asl,(j,y)::bs=>i==j&&dL Γ x y&&jM Γ asl bs
 |_,_=>false
def places(fs:Array Field):List (Nat×Nat):=fs.toList.map fun f=>(f.offset,((P.info? f.type).map (·.size)).getD 0)
def fq(Γ:Ctx):Op->AOp->Bool
 | .move x,.mov y | .assign x,.mov y=>dL Γ x y
 | .pick c a b,.pick c' a' b'=>dL Γ c c'&&dL Γ a a'&&dL Γ b b'
 | .binOp op t x y _,.bin op' t' x' y'=>op==op'&&t==t'&&dL Γ x x'&&dL Γ y y'
 | .unOp op _ x,.una op' x'=>op==op'&&dL Γ x x'
 | .convert s d x,.conv k x'=>(P.underlying s).isSome&&(match P.underlying d with|some (.int k')=>k==k'|_=>false)&&dL Γ x x'
 | .fieldAddr t x f,.fld off x'=>(match P.underlying t with|some (.struct fs)=>(match fs[f]? with|some fd=>fd.offset==off&&(match P.info? fd.type with|some i=>i.size != 0|none=>false)|none=>false)|_=>false)&&dL Γ x x'
 | .indexAddr t x i,.idx sz x' i'=>(match P.underlying t with|some (.slice e)=>k8 P e sz|_=>false)&&dL Γ x x'&&dL Γ i i'
 | .indexAddr t x i,.ida n sz x' i'=>(match P.underlying t with|some (.array k e)=>k==n&&k8 P e sz|_=>false)&&dL Γ x x'&&dL Γ i i'
 | .build t ps,.build z ps'=>isZero P t z&&(match P.underlying t with
   |some (.struct fs)=>fs.toList.all (fun f=>(P.info? f.type).isSome)&&kr Γ (fun i=>(places P fs)[i]?) ps.toList ps'
   |some (.array _ e)=>(match P.info? e with|some i=>kr Γ (fun k=>some (k*i.size,i.size)) ps.toList ps'|none=>false)
   |_=>false)
 | .extract x i,.extr i' x'=>i==i'&&dL Γ x x'
 | .nilCheck x,.nilck x'=>dL Γ x x'
 | .makeFunc (.func f) a c,.func f' a' c'=>f==f'&&iz Γ a.toList a'&&iz Γ c.toList c'
 | .call ⟨.builtin .len,args,ts⟩,.len s x'=>(match args.toList,ts[0]? with
   |[x],some t=>dL Γ x x'&&(match P.underlying t with|some (.slice _)=>!s|some .string=>s|_=>false)
   |_,_=>false)
 | .call ⟨.builtin .max,args,_⟩,.mx x' y'=>(match args.toList with|[x,y]=>dL Γ x x'&&dL Γ y y'|_=>false)
 | .slice t x lo hi none,.slc sz x' lo' hi'=>(match P.underlying t with|some (.slice e)=>k8 P e sz|_=>false)&&dL Γ x x'&&ku Γ lo lo'&&ku Γ hi hi'
 | .alloc t,.new z=>isZero P t z
 | .box _ x,.box x'=>dL Γ x x'
 | .buildSlice t len ps,.mkl sz len' z ps'=>len==len'&&len*sz<=16777216&&(match P.underlying t with|some (.slice e)=>k8 P e sz&&isZero P e z&&(z.length==sz)&&!(sz==0)|_=>false)&&jM Γ ps.toList ps'
 | .makeSlice t l c,.make sz bytes z l' c'=>(match P.underlying t with|some (.slice e)=>k8 P e sz&&ta P e bytes&&isZero P e z&&(z.length==sz)&&!(sz==0)|_=>false)&&dL Γ l l'&&dL Γ c c'
 | .load t x,.ld1 x'=>iD P t==some false&&dL Γ x x'
 | .load t x,.ldn n x'=>iD P t==some true&&k8 P t n&&dL Γ x x'
 | .store t x y,.st n x' y'=>k8 P t n&&dL Γ x x'&&dL Γ y y'
 | .call ⟨.builtin .append,args,ts⟩,.app sz bytes x' y'=>(match args.toList,ts.toList with
   |[x,y],[t,u]=>dL Γ x x'&&dL Γ y y'&&(match P.underlying t,P.underlying u with
     |some (.slice e),some (.slice _)=>k8 P e sz&&ta P e bytes&&(match P.info? e with|some i=>i.zero.isSome|none=>false)&&(match P.info? e with|some i=>(match i.zero with|some z=>z.cells.size==sz|none=>false)|none=>false)
     |_,_=>false)
   |_,_=>false)
 | .call ⟨.value f,args,_⟩,.call g args'=>(match f with | .func f=>f==g|_=>false)&&iz Γ args.toList args'
 | .call ⟨.value f,args,_⟩,.callv x args'=>dL Γ f x&&iz Γ args.toList args'
 | .index t x i,.pur .byte [x',i']=>(match P.underlying t with|some .string=>true|_=>false)&&dL Γ x x'&&dL Γ i i'
 | .index t x i,.pur (.ind n) [x',i']=>(match P.underlying t with|some (.array k e)=>k==n&&iD P e==some false&&k8 P e 1|_=>false)&&dL Γ x x'&&dL Γ i i'
 | .field t x f,.pur (.fld off) [x']=>(match P.underlying t with|some (.struct fs)=>(match fs[f]? with|some fd=>fd.offset==off&&iD P fd.type==some false|none=>false)|_=>false)&&dL Γ x x'
 | .slice t x lo hi none,.pur .sub [x',a',b']=>(match P.underlying t with|some .string=>true|_=>false)&&dL Γ x x'&&ku Γ lo (some a')&&ku Γ hi (some b')
 | .slice t x lo hi none,.pur .subl [x',a']=>(match P.underlying t with|some .string=>true|_=>false)&&dL Γ x x'&&ku Γ lo (some a')&&ku Γ hi none
 | .slice t x lo hi none,.pur .subh [x',b']=>(match P.underlying t with|some .string=>true|_=>false)&&dL Γ x x'&&ku Γ lo none&&ku Γ hi (some b')
 | .binOp op t x y _,.pur (.bit op' t') [x',y']=>op==op'&&t==t'&&dL Γ x x'&&dL Γ y y'
 | .binOp op t x y _,.pur (.isn op' t') [x']=>op==op'&&t==t'&&(match y with | .const .nilIface=>true|_=>false)&&dL Γ x x'
 | .makeMap _ none,.mp .mk []=>true
 | .lookup t x i ok,.mp (.look kt z ok') [x',i']=>ok==ok'&&(match P.underlying t with|some (.map k e)=>k==kt&&Eo P e z|_=>false)&&dL Γ x x'&&dL Γ i i'
 | .mapUpdate t x k v,.mp (.upd kt) [x',k',v']=>(match P.underlying t with|some (.map k _)=>k==kt|_=>false)&&dL Γ x x'&&dL Γ k k'&&dL Γ v v'
 | .insert t x k v,.mp (.upd kt) [x',k',v']=>(match P.underlying t with|some (.map k _)=>k==kt|_=>false)&&dL Γ x x'&&dL Γ k k'&&dL Γ v v'
 | .call ⟨.builtin .delete,args,ts⟩,.mp (.del kt) [x',k']=>(match args.toList,ts[0]? with
   |[x,k],some t=>dL Γ x x'&&dL Γ k k'&&(match P.underlying t with|some (.map k _)=>k==kt|_=>false)
   |_,_=>false)
 | .convert s d x,.mp .str [x']=>(match P.underlying s,P.underlying d with|some (.slice e),some .string=>(match P.underlying e with|some (.int .u8)=>true|_=>false)|_,_=>false)&&dL Γ x x'
 | .call ⟨.builtin .min,args,_⟩,.pur .min [x',y']=>(match args.toList with|[x,y]=>dL Γ x x'&&dL Γ y y'|_=>false)
 | .call ⟨.builtin .copy,args,ts⟩,.mp (.cpy sz) [x',y']=>(match args.toList,ts[0]? with
   |[x,y],some t=>dL Γ x x'&&dL Γ y y'&&(match P.underlying t with|some (.slice e)=>k8 P e sz|_=>false)
   |_,_=>false)
 | .slice t x none none none,.pur (.arrs n) [x']=>(match P.underlying t with|some (.array k e)=>k==n&&(P.info? e).isSome|_=>false)&&dL Γ x x'
 | .sliceToArrayPointer t x,.pur (.s2a n) [x']=>(match P.underlying t with|some (.array k _)=>k==n|_=>false)&&dL Γ x x'
 | .load t (.global g),.pur (.gld g' cs) []=>g==g'&&iD P t==some true&&k8 P t cs.length&&cs.all flat&&Ol.any (fun p=>p.1==g&&mH p.2 cs)
 |_,_=>false
end
def dI(ρ:Ren)(Γ:Ctx)(e:List Value)(tmps:Array Value):Prop:=
 ∀i t,named Γ i t=true->∃x y,e[i]?=some x/\tmps[t]?=some y/\VRel ρ x y
theorem dI.mono{ρ ρ':Ren}(hl:ρ.le ρ'){Γ:Ctx}{e:List Value}{tmps:Array Value}(h:dI ρ Γ e tmps):dI ρ' Γ e tmps:=
 fun i t hn=>let⟨x,y,a,b,c⟩:=h i t hn;⟨x,y,a,b,c.mono hl⟩
theorem dq{ρ:Ren}{Γ:Ctx}{e:List Value}{a:Act}(he:dI ρ Γ e a.tmps){x:Operand}{y:Opd}(h:dL Γ x y=true):VRel ρ (ev e y) (a.eval x):=by
 unfold dL at h
 split at h
 ·rename_i t i
  obtain⟨u,v,h1,h2,h3⟩:=he i t h
  show VRel ρ (ey e i) (a.tmps.getD t undef)
  rw[pY,h1,Array.getD_eq_getD_getElem?,h2];exact h3
 ·simp at h
  show VRel ρ _ _
  rw[BS h.1];exact gN ρ h.2
 ·simp at h
  show VRel ρ _ (.func _ _ _)
  rw[BS h.1];exact gN ρ h.2
 ·cases h
theorem jO{ρ:Ren}{Γ:Ctx}{e:List Value}{a:Act}(he:dI ρ Γ e a.tmps):∀{xs:List Operand} {ys:List Opd},iz Γ xs ys=true->dO ρ (evs e ys) (xs.map a.eval)
 |[],[],_=>.nil ρ
 |[],_::_,h=>by cases h
 |_::_,[],h=>by cases h
 |x::xs,y::ys,h=>by
  simp[iz]at h
  exact .cons (dq he h.1) (jO he h.2)
theorem fM{P:Program}{t n:Nat}(h:k8 P t n=true):∃i,P.info? t=some i/\i.size=n:=by
 unfold k8 at h;split at h
 ·exact⟨_,‹_›,by simpa using h⟩
 ·cases h
theorem rZ{P:Program}{t n:Nat}(h:ta P t n=true):∃i,P.info? t=some i/\i.bytes=n:=by
 unfold ta at h;split at h
 ·exact⟨_,‹_›,by simpa using h⟩
 ·cases h
theorem py:∀{x y:List Value},mH x y=true->x=y
 |[],[],_=>rfl
 |[],_::_,h=>by simp[mH]at h
 |_::_,[],h=>by simp[mH]at h
 |x::l,y::l',h=>by simp[mH]at h;rw[(xU h.1).1,py h.2]
theorem lZ{P:Program}{t:Nat}{z:List Value}(h:isZero P t z=true):∃i v,P.info? t=some i/\i.zero=some v/\v.cells.toList=z/\z.all flat=true/\z.all one=true:=by
 unfold isZero at h;split at h
 ·split at h
  ·simp only[Bool.and_eq_true]at h
   exact⟨_,_,‹_›,‹_›,py h.1.1,h.1.2,h.2⟩
  ·cases h
 ·cases h
def NRel(ρ:Ren)(v:Value)(nx:Next):Prop:=(∃v',nx=.value v'/\VRel ρ v v')\/(nx=.skip/\v=undef)
theorem Post.same{μ:Type}[AMem μ]{ρ:Ren}{V:Nat->Option Blk}{w:World}{B:Nat}(hm:MRel ρ V w B)(n:Nat)(m:μ):Post ρ V w B n m n 0 ρ w:=
 ⟨ρ.le_refl,fun _ _ h=>.inl h,by rw[pC];exact hm,Below.refl _ _,Nat.le_refl _,fun _ _ _=>rfl,fun _ _ h=>.inl h,fun b h=>by simp at h⟩
section
variable{P:Program}{w:World}
theorem run_sizeOf{t:Nat}{i:TypeInfo}(h:P.info? t=some i):(sizeOf t).run P w=.ok i.size w:=by simp[sizeOf,typeInfo,h]
theorem gg{t:Nat}{i:TypeInfo}{v:Value}(h:P.info? t=some i)(hz:i.zero=some v):(zeroValue t).run P w=.ok v w:=by simp[zeroValue,typeInfo,h,hz]
theorem iR{t:Nat}{b:Bool}(h:iD P t=some b):(isAgg t).run P w=.ok b w:=by
 unfold iD at h
 split at h
 ·injection h with h;subst h;rename_i hu;simp[isAgg,run_underlying hu]
 ·injection h with h;subst h;rename_i hu;simp[isAgg,run_underlying hu]
 ·injection h with h;subst h;rename_i d h1 h2 hu
  cases d with
  |struct fs=>exact(h1 fs rfl).elim
  |array n e=>exact(h2 n e rfl).elim
  |_=>simp[isAgg,run_underlying hu]
 ·cases h
theorem ir{α:Type}{x:Sem α}{v:α}(h:dG P x=some v):x.run P w=.ok v w:=by
 induction x with
 |pure a=>injection h with h;subst h;rfl
 |program k ih=>exact ih P h
 |_=>cases h
end
section
variable{P:Program}{w:World}{ρ:Ren}
theorem iE{op:BinOp}{t:Nat}{x y:Operand}{a b:Value}(h1:∀c d,¬(a=.agg c/\b=.agg d))(h2:a≠.nilIface):(eqGuard op t x y a b).run P w=.ok () w:=by
 unfold eqGuard
 cases op<;>simp<;>split<;>simp_all
theorem sk{op:BinOp}{t:Nat}{x y x' y':Operand}{a b:Value}(h2:a≠.nilIface):eqGuard op t x y a b=eqGuard op t x' y' a b:=by
 unfold eqGuard
 cases a<;>cases b<;>first|rfl|exact absurd rfl h2
theorem yM(a b:Int):decide (a<=b)=!decide (b<a):=by
 rw[Bool.eq_iff_iff];simp
theorem CB{op:BinOp}{k:IntKind}{t:Nat}{a b:Int}{v:Value}(h:fN op k a b=some v):(binOp op t (.int k a) (.int k b)).run P w=.ok v w/\flat v=true:=by
 cases op<;>simp only[fN]at h
 case add=>injection h with h;subst h;exact⟨by simp[binOp,Op.intArith,eW]<;>rfl,rfl⟩
 case sub=>injection h with h;subst h;exact⟨by simp[binOp,Op.intArith,eW]<;>rfl,rfl⟩
 case mul=>injection h with h;subst h;exact⟨by simp[binOp,Op.intArith,eW]<;>rfl,rfl⟩
 case quo=>
  rw[np]at h
  by_cases hb:b=0
  ·simp[hb]at h
  ·simp[hb]at h;subst h;exact⟨by simp[binOp,Op.intDiv,hb,eW],rfl⟩
 case rem=>
  rw[np]at h
  by_cases hb:b=0
  ·simp[hb]at h
  ·simp[hb]at h;subst h;exact⟨by simp[binOp,Op.intDiv,hb],rfl⟩
 case and=>cases h
 case or=>cases h
 case xor=>cases h
 case shl=>cases h
 case shr=>cases h
 case andNot=>cases h
 case eql=>injection h with h;subst h;exact⟨by simp[binOp,Op.intCmp,np];by_cases e:a=b<;>simp[e],rfl⟩
 case neq=>injection h with h;subst h;exact⟨by simp[binOp,Op.intCmp,np];by_cases e:a=b<;>simp[e],rfl⟩
 case lss=>injection h with h;subst h;exact⟨by simp[binOp,Op.intCmp,iW],rfl⟩
 case leq=>injection h with h;subst h;exact⟨by simp[binOp,Op.intCmp,iW,yM],rfl⟩
 case gtr=>injection h with h;subst h;exact⟨by simp[binOp,Op.intCmp,iW],rfl⟩
 case geq=>injection h with h;subst h;exact⟨by simp[binOp,Op.intCmp,iW,yM],rfl⟩
theorem pV{op:BinOp}{b:Bool}{v:Value}(h:kY op b=some v):(op=.eql/\v=.bool b)\/(op=.neq/\v=.bool (!b)):=by
 cases op<;>simp[kY]at h
 ·exact .inl ⟨rfl,h.symm⟩
 ·exact .inr ⟨rfl,h.symm⟩
theorem rK{t e:Nat}(ht:P.underlying t=some (.slice e))(a:Option Addr)(n c:Nat):(Op.equal t (.slice a n c) (.slice none 0 0)).run P w=.ok a.isNone w:=by
 obtain⟨d,hd⟩:∃d,Op.maxDepth=d+1:=⟨9999,rfl⟩
 rw[Op.equal,hd]
 cases a<;>simp[Op.equalIn,run_underlying ht]
theorem wC{t e:Nat}(ht:P.underlying t=some (.pointer e))(a:Option Addr):(Op.equal t (.pointer a) (.pointer none)).run P w=.ok a.isNone w:=by
 obtain⟨d,hd⟩:∃d,Op.maxDepth=d+1:=⟨9999,rfl⟩
 rw[Op.equal,hd]
 cases a<;>simp[Op.equalIn,run_underlying ht]
theorem vS{t:Nat}(h:je P t=true):∃e,P.underlying t=some (.slice e):=by
 unfold je at h;split at h
 ·exact⟨_,‹_›⟩
 ·cases h
theorem AL{t:Nat}(h:jm P t=true):∃e,P.underlying t=some (.pointer e):=by
 unfold jm at h;split at h
 ·exact⟨_,‹_›⟩
 ·cases h
theorem C5{op:BinOp}{t:Nat}{x y x' y' v:Value}(hx:VRel ρ x x')(hy:VRel ρ y y')(h:ji P op t x y=some v)(xo yo:Operand):
  ∃v',(do eqGuard op t xo yo x' y';binOp op t x' y':Sem Value).run P w=.ok v' w/\VRel ρ v v':=by
 unfold ji at h
 split at h
 ·rename_i k a k' b
  have e1:=hx.dN rfl;have e2:=hy.dN rfl
  subst e1;subst e2
  by_cases hk:k=k'
  ·subst hk
   simp at h
   obtain⟨h1,h2⟩:=CB (P:=P) (w:=w) (t:=t) h
   refine⟨v,?_,.flat h2⟩
   rw[Sem.run_bind,iE (by intro c d h;exact absurd h.1 (by simp)) (by simp)]
   exact h1
  ·simp[hk]at h
 ·rename_i a n c
  have e2:=hy.dN rfl;subst e2
  cases ht:je P t
  ·simp[ht]at h
  ·simp[ht]at h
   obtain⟨el,ht⟩:=vS ht
   have hx2:∃a' n' c',x'=.slice a' n' c'/\a'.isNone=a.isNone:=by
    cases hx with
    |flat h=>exact⟨_,_,_,rfl,rfl⟩
    |slice _ _ _ _ _=>exact⟨_,_,_,rfl,rfl⟩
    |vag=>exact⟨_,_,_,rfl,rfl⟩
   obtain⟨a',n',c',rfl,e⟩:=hx2
   rcases pV h with⟨rfl,rfl⟩|⟨rfl,rfl⟩
   ·refine⟨.bool a'.isNone,?_,by rw[e];exact .bool ρ _⟩
    rw[Sem.run_bind,iE (by intro c d h;exact absurd h.1 (by simp)) (by simp)]
    simp only[Result.andThen_ok,binOp,Sem.run_bind,rK ht];rfl
   ·refine⟨.bool (!a'.isNone),?_,by rw[e];exact .bool ρ _⟩
    rw[Sem.run_bind,iE (by intro c d h;exact absurd h.1 (by simp)) (by simp)]
    simp only[Result.andThen_ok,binOp,Sem.run_bind,rK ht];rfl
 ·rename_i a
  have e2:=hy.dN rfl;subst e2
  cases ht:jm P t
  ·simp[ht]at h
  ·simp[ht]at h
   obtain⟨el,ht⟩:=AL ht
   have hx2:∃a',x'=.pointer a'/\a'.isNone=a.isNone:=by
    cases hx with
    |flat h=>exact⟨_,rfl,rfl⟩
    |ptr _=>exact⟨_,rfl,rfl⟩
   obtain⟨a',rfl,e⟩:=hx2
   rcases pV h with⟨rfl,rfl⟩|⟨rfl,rfl⟩
   ·refine⟨.bool a'.isNone,?_,by rw[e];exact .bool ρ _⟩
    rw[Sem.run_bind,iE (by intro c d h;exact absurd h.1 (by simp)) (by simp)]
    simp only[Result.andThen_ok,binOp,Sem.run_bind,wC ht];rfl
   ·refine⟨.bool (!a'.isNone),?_,by rw[e];exact .bool ρ _⟩
    rw[Sem.run_bind,iE (by intro c d h;exact absurd h.1 (by simp)) (by simp)]
    simp only[Result.andThen_ok,binOp,Sem.run_bind,wC ht];rfl
 ·cases hc:(du x&&du y&&pU x)
  ·simp[hc]at h
  ·simp only[hc,cond_true]at h
   simp only[Bool.and_eq_true]at hc
   have e1:=hx.nY hc.1.1;have e2:=hy.nY hc.1.2
   subst e1;subst e2
   unfold mz at h
   split at h
   ·rename_i v' hv
    cases hf:flat v'
    ·simp[hf]at h
    ·simp[hf]at h;subst h
     refine⟨v',?_,.flat hf⟩
     have hn:x'≠.nilIface:=by intro e;subst e;simp[pU]at hc
     rw[sk (x':=.tmp 0) (y':=.tmp 0) hn]
     exact ir hv
   ·cases h
theorem BU{op:UnOp}{x x' v:Value}(hx:VRel ρ x x')(h:zz op x=some v):∃v',(Op.unary op x').run P w=.ok v' w/\VRel ρ v v':=by
 unfold zz at h
 split at h
 ·injection h with h;subst h;have e:=hx.dN rfl;subst e;exact⟨_,by simp[Op.unary]<;>rfl,.bool ρ _⟩
 ·injection h with h;subst h;have e:=hx.dN rfl;subst e;rename_i k n;exact⟨.int k (k.wrap (-n)),by simp[Op.unary,Op.intArith],by rw[eW,show Int.sub 0 n=-n from Int.zero_sub n];exact .int ρ _ _⟩
 ·injection h with h;subst h;have e:=hx.dN rfl;subst e;rename_i k n;exact⟨.int k (yA k n),rfl,.int ρ _ _⟩
 ·cases h
theorem Bc{k:IntKind}{s d:Nat}{x x' v:Value}(hs:(P.underlying s).isSome=true)(hd:P.underlying d=some (.int k))(hx:VRel ρ x x')(h:iO k x=some v):
  ∃v',(convert s d x').run P w=.ok v' w/\VRel ρ v v':=by
 unfold iO at h
 split at h
 ·injection h with h;subst h;have e:=hx.dN rfl;subst e
  obtain⟨u,hu⟩:=Option.isSome_iff_exists.1 hs
  exact⟨_,by simp[convert,run_underlying hu,run_underlying hd,Conv.intToInt]<;>rfl,by rw[eW];exact .int ρ _ _⟩
 ·cases h
theorem addr_add(b o n:Nat):(⟨b,o,none⟩:Addr).add n=⟨b,o+n,none⟩:=by unfold Addr.add;split<;>simp_all
theorem CJ{off s f:Nat}{fs:Array Field}{fd:Field}{i:TypeInfo}{x x' v:Value}(hs:P.underlying s=some (.struct fs))(hf:fs[f]?=some fd)(ho:fd.offset=off)
  (hi:P.info? fd.type=some i) (hz:i.size≠0) (hx:VRel ρ x x') (h:F1 off x=some v):∃v',(Instr.fieldAt s x' f).run P w=.ok v' w/\VRel ρ v v':=by
 unfold F1 at h
 split at h
 ·rename_i b o
  injection h with h;subst h
  cases hx with
  |flat h=>simp[flat]at h
  |ptr hp=>
   rename_i p
   refine⟨.pointer (some ⟨p.blk,p.base+(o+off),none⟩),?_,.ptr hp⟩
   simp[Instr.fieldAt,run_underlying hs,hf,Instr.sureAddr,fieldPlace,run_sizeOf hi,hz,addr_add,ho,Nat.add_assoc]
 ·cases h
theorem gE{x x':Value}{i:Nat}(hx:VRel ρ x x')(h:eN x=some i):∃k,x'=.int k (Int.ofNat i):=by
 unfold eN at h
 split at h
 ·injection h with h;subst h;exact⟨_,hx.dN rfl⟩
 ·cases h
theorem CE{t e sz i:Nat}{ti:TypeInfo}{k:IntKind}{x x' v:Value}(ht:P.underlying t=some (.slice e))(hi:P.info? e=some ti)(hz:ti.size=sz)(hx:VRel ρ x x')
  (h:fU sz i x=some v):∃v',(Instr.indexAt t x' (.int k (Int.ofNat i))).run P w=.ok v' w/\VRel ρ v v':=by
 unfold fU at h
 split at h
 ·rename_i b o len c
  cases hl:Nat.blt i len
  ·simp[hl]at h
  ·simp only[hl,cond_true]at h
   injection h with h;subst h
   have hl:i<len:=by simpa[Nat.blt_eq]using hl
   cases hx with
   |flat h=>simp[flat]at h
   |vag=>omega
   |slice hp h1 h2 h3 h4=>
    rename_i c' p
    refine⟨.pointer (some ⟨p.blk,p.base+(o+i*sz),none⟩),?_,.ptr hp⟩
    simp[Instr.indexAt,asIntOf,run_underlying ht,run_sizeOf hi,hz,addr_add,hl,Nat.add_assoc]
 ·cases h
theorem CF{t e n sz i:Nat}{ti:TypeInfo}{k:IntKind}{x x' v:Value}(ht:P.underlying t=some (.array n e))(hi:P.info? e=some ti)(hz:ti.size=sz)(hx:VRel ρ x x')
  (h:FU n sz i x=some v):∃v',(Instr.indexAt t x' (.int k (Int.ofNat i))).run P w=.ok v' w/\VRel ρ v v':=by
 unfold FU at h
 split at h
 ·rename_i b o
  cases hl:Nat.blt i n
  ·simp[hl]at h
  ·simp only[hl,cond_true]at h
   injection h with h;subst h
   have hl:i<n:=by simpa[Nat.blt_eq]using hl
   cases hx with
   |flat h=>simp[flat]at h
   |ptr hp=>
    rename_i p
    refine⟨.pointer (some ⟨p.blk,p.base+(o+i*sz),none⟩),?_,.ptr hp⟩
    simp[Instr.indexAt,asIntOf,run_underlying ht,run_sizeOf hi,hz,addr_add,hl,Nat.add_assoc,Instr.sureAddr]
 ·cases h
theorem CV{t i:Nat}{k:IntKind}{x x' v:Value}(ht:(match P.underlying t with|some .string=>true|_=>false)=true)(hx:VRel ρ x x')
  (h:CW i x=some v):∃v',(Instr.index t x' (.int k (Int.ofNat i))).run P w=.ok v' w/\VRel ρ v v':=by
 unfold CW at h
 split at h
 ·rename_i s
  have e1:=hx.dN rfl;subst e1
  unfold NF at h
  split at h
  ·rename_i b hb
   injection h with h;subst h
   have hs:s[i]?=some b:=by
    have h1:i<s.data.toList.length:=by
     rcases Nat.lt_or_ge i s.data.toList.length with h|h
     ·exact h
     ·rw[List.getElem?_eq_none h]at hb;cases hb
    rw[List.getElem?_eq_getElem h1]at hb;injection hb with hb;subst hb
    have h2:i<s.size:=h1
    rw[getElem?_pos s i h2];rfl
   have hu:P.underlying t=some .string:=by
    split at ht
    ·assumption
    ·cases ht
   refine⟨.int .u8 (Int.ofNat b.toNat),?_,.int ρ _ _⟩
   have e2:(if 0<=Int.ofNat i then s[(Int.ofNat i).toNat]? else none)=some b:=by
    have h0:(0:Int)<=Int.ofNat i:=Int.natCast_nonneg i
    rw[if_pos h0];exact hs
   unfold Instr.index
   simp only[asIntOf,Sem.run_bind,Sem.run_pure,Result.andThen_ok,run_underlying hu,e2]
   rfl
  ·cases h
 ·cases h
theorem CC{t i n:Nat}{k:IntKind}{x x' v:Value}(ht:(match P.underlying t with|some (.array k e)=>k==n&&iD P e==some false&&k8 P e 1|_=>false)=true)(hx:VRel ρ x x')
  (h:Ld n i x=some v):∃v',(Instr.index t x' (.int k (Int.ofNat i))).run P w=.ok v' w/\VRel ρ v v':=by
 unfold Ld at h
 split at h
 ·rename_i cs
  cases hl:Nat.blt i n
  ·simp[hl]at h
  simp only[hl,cond_true]at h
  have hl:i<n:=by simpa[Nat.blt_eq]using hl
  rw[eV]at h
  cases hx with
  |flat h=>simp[flat]at h
  |agg h1 h2=>
   rename_i cs'
   obtain⟨y,hy,hr⟩:=(dO.of_array h1 h2).get h
   split at ht
   ·rename_i k' e hu
    simp only[Bool.and_eq_true,beq_iff_eq]at ht
    obtain⟨⟨rfl,hagg⟩,hsz⟩:=ht
    obtain⟨ti,hti,hts⟩:=fM hsz
    refine⟨y,?_,hr⟩
    have e2:(0:Int)<=Int.ofNat i/\Int.ofNat i<(k':Int):=⟨Int.natCast_nonneg i,Int.ofNat_lt.2 hl⟩
    have e3:cs'[(Int.ofNat i).toNat*1]?=some y:=by rw[Nat.mul_one];simpa using hy
    unfold Instr.index
    simp only[asIntOf,Sem.run_bind,Sem.run_pure,Result.andThen_ok,run_underlying hu,if_pos e2,run_sizeOf hti,hts,part,iR hagg,e3]
    rfl
   ·cases ht
 ·cases h
theorem CK{t f off:Nat}{x x' v:Value}(ht:(match P.underlying t with|some (.struct fs)=>(match fs[f]? with|some fd=>fd.offset==off&&iD P fd.type==some false|none=>false)|_=>false)=true)(hx:VRel ρ x x')
  (h:F2 off x=some v):∃v',(Instr.field t x' f).run P w=.ok v' w/\VRel ρ v v':=by
 unfold F2 at h
 split at h
 ·rename_i cs
  rw[eV]at h
  cases hx with
  |flat h=>simp[flat]at h
  |agg h1 h2=>
   rename_i cs'
   obtain⟨y,hy,hr⟩:=(dO.of_array h1 h2).get h
   split at ht
   ·rename_i fs hu
    split at ht
    ·rename_i fd hfd
     simp only[Bool.and_eq_true,beq_iff_eq]at ht
     obtain⟨rfl,hagg⟩:=ht
     exact⟨y,by simp[Instr.field,run_underlying hu,hfd,asAgg,part,iR hagg,(by simpa using hy:cs'[fd.offset]?=some y)],hr⟩
    ·cases ht
   ·cases ht
 ·cases h
theorem BV{t a b:Nat}{s:ByteArray}{v:Value}{lo hi:Option Value}(hu:P.underlying t=some .string)(h:NS s a b=some v)
  (hlo:(lo=none/\a=0)\/∃k,lo=some (.int k (Int.ofNat a))) (hhi:(hi=none/\b=s.size)\/∃k,hi=some (.int k (Int.ofNat b))):
  (Instr.slice t (.string s) lo hi none).run P w=.ok v w/\flat v=true:=by
 unfold NS at h
 cases hab:Nat.ble a b&&Nat.ble b s.size
 ·rw[hab]at h;cases h
 rw[hab]at h
 simp only[Bool.and_eq_true]at hab
 have h1:=Nat.le_of_ble_eq_true hab.1
 have h2:=Nat.le_of_ble_eq_true hab.2
 injection h with h;subst h
 refine⟨?_,rfl⟩
 have c0:∀(k:IntKind) (c d:Nat) (e:BoundsCode),c<=d->(Instr.sliceBound (.int k (Int.ofNat c)) d e).run P w=.ok c w:=by
  intro k c d e hcd
  have:(0:Int)<=Int.ofNat c/\Int.ofNat c<=(d:Int):=⟨Int.natCast_nonneg c,Int.ofNat_le.2 hcd⟩
  unfold Instr.sliceBound
  simp only[asIntOf,Sem.run_bind,Sem.run_pure,Result.andThen_ok,if_pos this]
  rfl
 rcases hlo with⟨rfl,rfl⟩|⟨k,rfl⟩<;>rcases hhi with⟨rfl,rfl⟩|⟨k',rfl⟩
 ·simp[Instr.slice,run_underlying hu,Instr.sliceBounds]
 ·have:=c0 k' b s.size .sliceAlen h2
  simp only[Instr.slice,Instr.sliceBounds,Sem.run_bind,Sem.run_pure,Result.andThen_ok,run_underlying hu,Option.isSome_none,this,Bool.false_eq_true,if_false]
 ·have:=c0 k a s.size .sliceB h1
  simp only[Instr.slice,Instr.sliceBounds,Sem.run_bind,Sem.run_pure,Result.andThen_ok,run_underlying hu,Option.isSome_none,this,Bool.false_eq_true,if_false]
 ·have e1:=c0 k' b s.size .sliceAlen h2
  have e2:=c0 k a b .sliceB h1
  simp only[Instr.slice,Instr.sliceBounds,Sem.run_bind,Sem.run_pure,Result.andThen_ok,run_underlying hu,Option.isSome_none,e1,e2,Bool.false_eq_true,if_false]
theorem C4{op:BinOp}{t:Nat}{x y x' y' v:Value}(hx:VRel ρ x x')(hy:VRel ρ y y')(h:mq P op t x y=some v)(xo yo:Operand):
  ∃v',(do eqGuard op t xo yo x' y';binOp op t x' y':Sem Value).run P w=.ok v' w/\VRel ρ v v':=by
 unfold mq at h
 split at h
 ·rename_i k a k' b
  have e1:=hx.dN rfl;have e2:=hy.dN rfl
  subst e1;subst e2
  unfold mz at h
  split at h
  ·rename_i u hu
   cases hf:flat u
   ·rw[hf]at h;cases h
   rw[hf]at h;injection h with h;subst h
   rw[sk (x':=.tmp 0) (y':=.tmp 0) (by simp)]
   exact⟨u,ir hu,.flat hf⟩
  ·cases h
 ·cases h
theorem AW{i:Nat}{x x' v:Value}(hx:VRel ρ x x')(h:xl i x=some v):∃v',(Instr.extract x' i).run P w=.ok v' w/\VRel ρ v v':=by
 unfold xl at h
 split at h
 ·rename_i vs
  rw[eV]at h
  cases hx with
  |flat h=>simp[flat]at h
  |tuple h1 h2=>
   rename_i vs'
   obtain⟨y,hy,hr⟩:=(dO.of_array h1 h2).get h
   exact⟨y,by simp[Instr.extract,(by simpa using hy:vs'[i]?=some y)],hr⟩
 ·cases h
theorem yC{x x' v:Value}(hx:VRel ρ x x')(h:qW x=some v):∃a,x'=.pointer (some a)/\VRel ρ v x':=by
 unfold qW at h
 split at h
 ·injection h with h;subst h
  cases hx with
  |flat h=>simp[flat]at h
  |ptr hp=>exact⟨_,rfl,.ptr hp⟩
 ·cases h
theorem FL{x y x' y' v:Value}(ts:Array TypeId)(ty:Nat)(hx:VRel ρ x x')(hy:VRel ρ y y')(h:mxV x y=some v):∃v',(Builtin.max_ ts ty #[x',y']).run P w=.ok v' w/\VRel ρ v v':=by
 unfold mxV at h
 split at h
 ·injection h with h;subst h
  have e1:=hx.dN rfl;have e2:=hy.dN rfl;subst e1;subst e2
  rename_i k a k' b
  refine⟨.int k (if b > a then b else a),by simp[Builtin.max_,Builtin.max2,List.foldlM],?_⟩
  rw[iW]
  by_cases hab:a<b<;>simp[hab]<;>exact .int ρ _ _
 ·cases h
theorem FO{x y x' y' v:Value}(ts:Array TypeId)(ty:Nat)(hx:VRel ρ x x')(hy:VRel ρ y y')(h:mnV x y=some v):∃v',(Builtin.min_ ts ty #[x',y']).run P w=.ok v' w/\VRel ρ v v':=by
 unfold mnV at h
 split at h
 ·injection h with h;subst h
  have e1:=hx.dN rfl;have e2:=hy.dN rfl;subst e1;subst e2
  rename_i k a k' b
  refine⟨.int k (if b<a then b else a),by simp[Builtin.min_,Builtin.min2,List.foldlM],?_⟩
  rw[iW]
  by_cases hab:b<a<;>simp[hab]<;>exact .int ρ _ _
 ·cases h
theorem CA{op:BinOp}{t:Nat}{x x' v:Value}(hx:VRel ρ x x')(h:Lb P op t x=some v)(xo:Operand):
  ∃v',(do eqGuard op t xo (.const .nilIface) x' .nilIface;binOp op t x' .nilIface:Sem Value).run P w=.ok v' w/\VRel ρ v v':=by
 unfold Lb at h
 split at h
 ·have e1:=hx.dN rfl
  subst e1
  unfold mz at h
  split at h
  ·rename_i v' hv
   cases hf:flat v'
   ·simp[hf]at h
   ·simp[hf]at h;subst h
    refine⟨v',?_,.flat hf⟩
    have hg:(eqGuard op t xo (.const .nilIface) .nilIface .nilIface).run P w=.ok () w:=by
     unfold eqGuard
     cases op<;>simp
    rw[Sem.run_bind,hg]
    exact ir hv
  ·cases h
 ·have hx2:∃t' y,x'=.iface t' y:=by
   cases hx with
   |flat h=>simp[flat]at h
   |opq=>exact⟨_,_,rfl⟩
  obtain⟨t',y,rfl⟩:=hx2
  split at h
  ·rename_i ms hu
   injection h with h;subst h
   refine⟨.bool false,?_,.flat rfl⟩
   show((eqGuard .eql t xo (.const .nilIface) (.iface t' y) .nilIface) >>= fun _=>(do pure (.bool (<-Op.equal t (.iface t' y) .nilIface)):Sem Value)).run P w=_
   rw[Sem.run_bind,show(eqGuard .eql t xo (.const .nilIface) (.iface t' y) .nilIface).run P w=.ok () w by unfold eqGuard;simp]
   show((underlying t >>= _) >>= _:Sem Value).run P w=_
   simp[Sem.run_bind,run_underlying hu]
  ·rename_i ms hu
   injection h with h;subst h
   refine⟨.bool true,?_,.flat rfl⟩
   show((eqGuard .neq t xo (.const .nilIface) (.iface t' y) .nilIface) >>= fun _=>(do pure (.bool (!(<-Op.equal t (.iface t' y) .nilIface))):Sem Value)).run P w=_
   rw[Sem.run_bind,show(eqGuard .neq t xo (.const .nilIface) (.iface t' y) .nilIface).run P w=.ok () w by unfold eqGuard;simp]
   show((underlying t >>= _) >>= _:Sem Value).run P w=_
   simp[Sem.run_bind,run_underlying hu]
  ·cases h
 ·cases h
theorem C8{n t e:Nat}{i:TypeInfo}{x x' v:Value}(ht:P.underlying t=some (.array n e))(hi:P.info? e=some i)(hx:VRel ρ x x')(h:C9 n x=some v):∃v',(Instr.sliceAt t x' none none none).run P w=.ok v' w/\VRel ρ v v':=by
 unfold C9 at h
 split at h
 ·rename_i b o
  cases hn:Nat.blt n UNK
  ·rw[hn]at h;cases h
  ·rw[hn,cond_true]at h
   injection h with h;subst h
   have hn:=Nat.le_of_ble_eq_true hn
   cases hx with
   |flat hf=>simp[flat]at hf
   |ptr hp=>
    rename_i p
    refine⟨.slice (some ⟨p.blk,p.base+o,none⟩) n n,?_,.slice hp (Nat.le_refl _) (fun h=>by omega) (fun _=>rfl) (fun h=>by unfold VAG at h;unfold UNK at hn;omega)⟩
    simp[Instr.sliceAt,Instr.sliceBounds,run_underlying ht,run_sizeOf hi,Instr.sureAddr,addr_add]
 ·cases h
theorem B5{n t e:Nat}{x x' v:Value}(ht:P.underlying t=some (.array n e))(hx:VRel ρ x x')(h:FE n x=some v):∃v',(Instr.arrayAt t x').run P w=.ok v' w/\VRel ρ v v':=by
 unfold FE at h
 split at h
 ·rename_i b o len c
  cases hl:(Nat.ble n len&&Nat.blt 0 n)
  ·rw[hl]at h;cases h
  ·rw[hl,cond_true]at h
   injection h with h;subst h
   rw[Bool.and_eq_true]at hl
   have h1:=Nat.le_of_ble_eq_true hl.1
   have h2:0<n:=Nat.le_of_ble_eq_true hl.2
   cases hx with
   |flat h=>simp[flat]at h
   |vag=>omega
   |slice hp g1 g2 g3 g4=>
    rename_i c' p
    refine⟨.pointer (some ⟨p.blk,p.base+o,none⟩),?_,.ptr hp⟩
    simp[Instr.arrayAt,run_underlying ht,Nat.not_lt.2 h1]
 ·cases h
end
end Go.Am
