/- The machine and its runs, part 18. -/
import Derived.Deep.Matrix
import Derived.OpenShut
import Derived.Shelf.SlGeneric
import Derived.Shelf.SlMaps.Clone
import Derived.Shelf.Strings.SlTrimAscii
import Derived.Shelf.SlIter.Nil
import Derived.Shelf.SortM.Plain
import Derived.Shelf.SortM.SortNone
import Derived.Shelf.Spec.SlicesGrow
import Derived.Shelf.SlSortCmp.WholeK
import Derived.Shelf.SlicesG.Cmp
import Derived.Test.YtiibhndkoknmnaaGreatDoorProg
import Derived.Test.YtiibhndkoknmnaaGreatDoorB17
set_option linter.unusedVariables false
set_option linter.unusedSimpArgs false
open Go renaming Value→AT,World→SE
open Nat renaming reduceAdd→to,reduceMul→IS,zero_testBit→TD,le_refl→IN,mod→SL,zero_le→Tq,zero_mul→Yy,zero_add→TU
open List renaming cons_append→SK,nil_append→SJ,getElem?_take→UP,getElem?_drop→U',getElem_mem→Tb,map→Xm,range→Ur,mem_cons_self→Tk,mem_cons_of_mem→SQ,getD_eq_getElem?_getD→VY,getElem?_eq_getElem→SH,length_map→SC,getElem_map→Wo,getElem?_map→To,drop_zero→UZ,length_append→IT,length_cons→SA,take_append_of_le_length→Xn,take_of_length_le→Va,mem_iff_getElem→Wx,getElem?_eq_some_iff→S',length_drop→UF,range_succ→Xp,map_append→Uu,flatten_append→WD,map_cons→Uc,map_nil→Xx,flatten_cons→YB,append_nil→SN,getElem?_cons_succ→UD
open Go.Addr renaming add→Wg
open Go.World renaming cell?→Ts
open Array renaming getElem?_eq_some_iff→SB
open Classical renaming choose→WK,choose_spec→Wb
open List.cons renaming injEq→Wm
open Go.Proofs.Tryz renaming prog→SI,underlying4→Ut,isAgg4→Vx,sizeOf4→Vi,zeroValue4→UK,underlying20→W5,isAgg20→XW,sizeOf20→XH,zeroValue20→Xi,underlying61→YC,underlying0→Vj,isAgg0→V0,sizeOf0→VN,zeroValue0→Vs,underlying3→Vk,isAgg3→V2,sizeOf3→VO,zeroValue3→Vt,underlying5→Wk,isAgg5→Yd,sizeOf5→XX,zeroValue5→Xq,underlying9→UX,isAgg9→VH,sizeOf9→VA,zeroValue9→U6,underlying296→WO,isAgg296→XI,sizeOf296→Xz,zeroValue296→W6,underlying148→Yk,zeroValue148→YD,underlying135→Yl,zeroValue135→YE,underlying57→W7,isAgg57→XY,sizeOf57→XJ,zeroValue57→Xj,underlying396→Ym,zeroValue396→YF,underlying397→Yn,zeroValue397→YG,underlying250→Yo,zeroValue250→YH,underlying404→Yp,zeroValue404→YI,underlying91→YJ,underlying457→Yq,zeroValue457→YK,underlying291→Yr,zeroValue291→YL,underlying487→Ys,zeroValue487→YM,underlying488→Yt,zeroValue488→YN
open Go.Am.AMem renaming put→If
namespace Go.Am.CR
set_option maxRecDepth 100000
open Go Go.Am
variable{Y:Nat->List AT->FM->Nat->OR FM}
variable{n k S mb b ob j i N:Nat}{m M:FM}{v lv:AT}{vs:List Vo}{o w:Bool}{d:List Int}
def evC:List AT:=[.int .i64 1,.int .i64 0,.bool false,.int .i64 0,.int .i64 0,.bool false]
theorem G4:Pure (fL PG EL Y 174 [.agg #[.int .i64 1,.int .i64 0,.bool false,.int .i64 0,.int .i64 0,.bool false]] m n) m n (.bool false):=by refine gC e174 rfl rfl ?_;simp only[QD];simp(disch:=omega)only[W_,eu,to,IS]
theorem B9:Pure (fL PG EL Y 111 [.agg #[.int .i64 1,.int .i64 0,.bool false,.int .i64 0,.int .i64 0,.bool false]] m n) m n (.bool true):=by refine gC e111 rfl rfl ?_;simp only[QY];simp(disch:=omega)only[W_,eu,to,IS];refine fF G4 λr1=>?_;simp(disch:=omega)only[W_,eu,to,IS]
theorem Su(y0 y1 y2 y3 x4 x6 x8 x9:AT)(tl:List AT)(M:FM)(N:Nat):Gv (gD PG EL Y zY ([y0,y1,y2,y3,x4,.int .i64 ((1:Nat):Int),x6,.int .i64 ((1:Nat):Int),x8,x9]++tl) M N) λX e M' N' w=>M'=M/\N'=N/\w=0/\X=.exit 0/\e=[y0,y1,y2,y3,x6,.int .i64 ((1:Nat):Int),x8,x9]++tl:=by refine gA (L:=zY) (b:=ve) rfl ?_;simp only[ve,SK,SJ];simp(disch:=omega)only[W_,eu,to,IS]
theorem Kb:nk PG .neq 132 (.pointer none) (.pointer none)=some (.bool false):=by show cond (lK PG 132) (mQ .neq true) none=_;rw[show lK PG 132=true by kernel_rfl];rfl
theorem Sv(hb:b<n)(hm:m b=some (.cells evC 6 o w))(hob:ob<n)(hmo:m ob=some (.map []))(y0 y1 y2 x6 x8 x9 x11 x12 x13:AT):Gv (gD PG EL Y zY [y0,y1,y2,.slice none 0 0,.int .i64 0,.int .i64 0,x6,.int .i64 ((1:Nat):Int),x8,x9,.map (some ob),x11,x12,x13,.slice (some ⟨b,0,none⟩) 1 k] m n) λX e M' N' w=>∃qb pk,X=.exit 0/\e=[y0,y1,y2,.slice (some ⟨qb,0,none⟩) 1 UNK,x6,.int .i64 ((1:Nat):Int),x8,x9,.map (some ob),x11,x12,x13,.slice (some ⟨b,0,none⟩) 1 k]/\qb<N'/\pk<N'/\M' qb=some (.cells [.int .i64 0] 1 true true)/\M' ob=some (.map [(.int .i64 0,.pointer (some ⟨pk,0,none⟩))])/\M' pk=some (.cells [.int .i64 0,.int .i64 0,.int .i64 0,.bool false,.bool false,.int .i64 0,.int .i64 0,.int .i64 (-1)] 0 false true)/\n<=N'/\(∀c,c<n->c≠ob->M' c=m c)/\mI w n ob:=by
 refine gA (L:=zY) (b:=ve) rfl ?_;simp only[ve];have f1:∀x c,c<n->(If m n x:FM) c=m c:=λx c hc=>gu;have hlk:∀x,lu PG (.look 3 (.pointer none) false) [.map (some ob),.int .i64 0] (If m n x:FM) (n+1)=.ok (.pointer none) (If m n x) (n+1) (bit ob) 0:=λx=>vG (mi:=[]) GI (by omega) ((f1 x ob hob).trans hmo) (.pointer none) false 0;simp(disch:=omega)only[W_,eu,to,IS,hm,evC,mE,hlk,Kb];refine fF B9 λr1=>?_;have f2:∀x y c,c<n->(If (If m n x) (n+1) y:FM) c=m c:=λx y c hc=>by rw[en _ _ _ _ (by omega),en _ _ _ _ (by omega)]
 have hup:∀x y,lu PG (.upd 3) [.map (some ob),.int .i64 0,.pointer (some ⟨n+1,0,none⟩)] (If (If m n x) (n+1) y:FM) (n+2)=_:=λx y=>Dq (mi:=[]) GI (by omega) ((f2 x y ob hob).trans hmo) 0 (.pointer (some ⟨n+1,0,none⟩));simp(disch:=omega)only[W_,eu,to,IS,mE,hup];refine gR (Su y0 y1 y2 _ _ x6 x8 x9 [.map (some ob),x11,x12,x13,.slice (some ⟨b,0,none⟩) 1 k] _ (n+4)) λX e m' n' w ⟨hM,hN,hw,hX,he⟩=>?_;subst hM hN hw;refine⟨n+3,n+1,hX,he,by omega,by omega,eB _ _ _,?_,?_,by omega,λc hc hne=>?_,λj hj hne=>?_⟩
 ·rw[en _ _ _ _ (by omega),en _ _ _ _ (by omega),eB];rfl
 ·rw[en _ _ _ _ (by omega),en _ _ _ _ (by omega),en _ _ _ _ (by omega),eB]
 ·rw[en _ _ _ _ (by omega),en _ _ _ _ (by omega),en _ _ _ _ hne,f2 _ _ c hc]
 ·simp only[gv,gx,TD];simp;omega
theorem Gm(hb:b<n)(hm:m b=some (.cells evC 6 o w)):Kp (fL PG EL Y 46 [.slice (some ⟨b,0,none⟩) 1 k] m n) m n λr m' n'=>∃ob qb pk,r=.tuple #[.map (some ob),.slice (some ⟨qb,0,none⟩) 1 UNK,.bool true]/\ob<n'/\qb<n'/\pk<n'/\m' qb=some (.cells [.int .i64 0] 1 true true)/\m' ob=some (.map [(.int .i64 0,.pointer (some ⟨pk,0,none⟩))])/\m' pk=some (.cells [.int .i64 0,.int .i64 0,.int .i64 0,.bool false,.bool false,.int .i64 0,.int .i64 0,.int .i64 (-1)] 0 false true):=by refine gG (R:=λr m' n'=>∃ob qb pk,r=.tuple #[.map (some ob),.slice (some ⟨qb,0,none⟩) 1 UNK,.bool true]/\ob<n'/\qb<n'/\pk<n'/\m' qb=some (.cells [.int .i64 0] 1 true true)/\m' ob=some (.map [(.int .i64 0,.pointer (some ⟨pk,0,none⟩))])/\m' pk=some (.cells [.int .i64 0,.int .i64 0,.int .i64 0,.bool false,.bool false,.int .i64 0,.int .i64 0,.int .i64 (-1)] 0 false true)) e46 rfl λQ hQ=>?_;simp only[afa];have hmk:∀(M:FM) N,lu PG .mk [] M N=.ok (.map (some N)) (If M N (some (.map []))) (N+1) 0 (bit N):=λ_ _=>rfl;simp(disch:=omega)only[W_,eu,to,IS,mE,hmk];have fr:∀c,c<n->(If m n (some (.map [])):FM) c=m c:=λc hc=>gu;refine ic (Sv (by omega) ((fr b hb).trans hm) (by omega) (eB _ _ _) _ _ _ _ _ _ _ _ _) λX e M1 n1 r1 w1 ⟨qb,pk,hX,he,a1,a2,a3,a4,a5,a6,a7,a8⟩=>?_;subst hX he;simp(disch:=omega)only[W_,eu,to,IS];exact hQ _ _ _ _ _ (by omega) (λc hc=>(a7 c (by omega) (by omega)).trans (fr c hc)) (by simp(disch:=omega)only[fB,eS,eR,and_self,a8.mod (show n<=n+1 by omega) (IN n)]) rfl ⟨n,qb,pk,rfl,by omega,a1,a2,a3,a4,a5⟩
theorem ops_1(y0 x2:AT)(tl:List AT)(M:FM)(N:Nat):Gv (gD PG EL Y Ac (y0::.int .i64 ((1:Nat):Int)::x2::.int .i64 ((1:Nat):Int)::tl) M N) λX e M' N' w=>M'=M/\N'=N/\w=0/\X=.exit 0/\e=y0::x2::.int .i64 ((1:Nat):Int)::tl:=by refine gA (L:=Ac) (b:=vj) rfl ?_;simp only[vj];simp(disch:=omega)only[W_,eu,to,IS]
theorem adQ{qb pk:Nat}(h1:ob<n)(h2:qb<n)(h3:pk<n)(hq:m qb=some (.cells [.int .i64 0] 1 true true))(ho:m ob=some (.map [(.int .i64 0,.pointer (some ⟨pk,0,none⟩))]))(hp:m pk=some (.cells [.int .i64 0,.int .i64 0,.int .i64 0,.bool false,.bool false,.int .i64 0,.int .i64 0,.int .i64 (-1)] 0 false true))(e4 e5 e6:AT)(tl:List AT):Gv (gD PG EL Y Ac ([.slice none 0 0,.int .i64 0,.int .i64 0,.int .i64 ((1:Nat):Int),e4,e5,e6,.slice (some ⟨qb,0,none⟩) 1 UNK,.map (some ob)]++tl) m n) λX e M' N' w=>∃lb,X=.exit 0/\e=[.slice (some ⟨lb,0,none⟩) 1 UNK,.int .i64 0,.int .i64 ((1:Nat):Int),e4,e5,e6,.slice (some ⟨qb,0,none⟩) 1 UNK,.map (some ob)]++tl/\n<=N'/\(∀c,c<n->M' c=m c)/\SL w (bit n)=0:=by refine gA (L:=Ac) (b:=vj) rfl ?_;simp only[vj,SK,SJ];have hlk:lu PG (.look 3 (.pointer none) false) [.map (some ob),.int .i64 0] m n=.ok (.pointer (some ⟨pk,0,none⟩)) m n (bit ob) 0:=vG (mi:=[(0,.pointer (some ⟨pk,0,none⟩))]) GI h1 ho (.pointer none) false 0;simp(disch:=omega)only[W_,eu,to,IS,hq,mE,hlk,hp];refine gR (ops_1 _ _ _ _ _) λX e m' n' w ⟨hM,hN,hw,hX,he⟩=>?_;subst hM hN hw;refine⟨n+1,hX,he,by omega,λc hc=>?_,(by simp(disch:=omega)only[fB,eS,eR,and_self])⟩;rw[en _ _ _ _ (by omega),en _ _ _ _ (by omega)]
theorem Ng{k:Nat}(hb:b<n)(hm:m b=some (.cells evC 6 o w)):Kp (fL PG EL Y 14 [.slice (some ⟨b,0,none⟩) 1 k] m n) m n λr m' n'=>∃lb,r=.tuple #[.slice (some ⟨lb,0,none⟩) 1 UNK,.int .i64 0]:=by refine gG (R:=λr m' n'=>∃lb,r=.tuple #[.slice (some ⟨lb,0,none⟩) 1 UNK,.int .i64 0]) e14 rfl λQ hQ=>?_;simp only[afv];simp(disch:=omega)only[W_,eu,to,IS];refine fI (Gm hb hm) λv1 M1 n1 r1 w1 ⟨k1,f1,g1,ob,qb,pk,hv1,a1,a2,a3,a4,a5,a6⟩=>?_;subst hv1;simp(disch:=omega)only[W_,eu,to,IS,lX];refine ic (adQ a1 a2 a3 a4 a5 a6 _ _ _ _) λX e M2 n2 r2 w2 ⟨lb,hX,he,k2,f2,g2⟩=>?_;subst hX he;simp(disch:=omega)only[W_,eu,to,IS,SK,SJ];exact hQ _ _ _ _ _ (by omega) (λc hc=>(f2 c (by omega)).trans (f1 c hc)) (by simp(disch:=omega)only[fB,eS,eR,and_self,g1,jE g2 k1]) rfl ⟨lb,rfl⟩
def lU(m:FM)(n:Nat)(v:AT)(cs:List (Cmd×AT)):Prop:=
 (∃a c,v=.slice a cs.length c/\iW n v=true/\(cs=[]\/∃b o cells opn wr,a=some ⟨b,o,none⟩/\b<n/\m b=some (.cells cells 9 opn wr)/\∀i (h:i<cs.length),lS (nI cells (o+i*9)) 9=some (cs[i].1.cells cs[i].2)))/\
  ∀c∈cs,c.1.Fit/\jn m n c.2 c.1.data
theorem lU.len{cs:List (Cmd×AT)}(h:lU m n v cs):qR false v=some (.int .i64 (cs.length:Int)):=by obtain⟨⟨a,c,rfl,_⟩,_⟩:=h;rfl
theorem lU.one{cs:List (Cmd×AT)}(h:lU m n v cs):Am.one v=true:=by obtain⟨⟨a,c,rfl,_⟩,_⟩:=h;rfl
theorem lU.bel{cs:List (Cmd×AT)}(h:lU m n v cs)(k:Nat)(hk:n<=k):iW k v=true:=by
 obtain⟨⟨a,c,rfl,hb,_⟩,_⟩:=h
 cases a with
 |none=>exact hb
 |some a=>exact gI (show a.block<k from Nat.lt_of_lt_of_le (Nat.le_of_ble_eq_true hb) hk)
theorem lU.frame{m':FM}{n':Nat}{cs:List (Cmd×AT)}(h:lU m n v cs)(hn:n<=n')(hf:∀b,b<n->m' b=m b):lU m' n' v cs:=by
 have hb:=h.bel n' hn;obtain⟨⟨a,c,rfl,_,h⟩,hd⟩:=h;refine⟨⟨a,c,rfl,hb,?_⟩,λc hc=>⟨(hd c hc).1,(hd c hc).2.frame hn hf⟩⟩;rcases h with h|⟨b,o,cs,opn,wr,h1,h2,h3,h4⟩
 ·exact .inl h
 ·exact .inr ⟨b,o,cs,opn,wr,h1,by omega,(hf b h2).trans h3,h4⟩
theorem pQ{l r:List AT}{o:Nat}{x:AT}(h:lS (nI l o) k=some r)(hj:j<k)(hx:lC r j=some x):lC l (o+j)=some x:=by
 rw[jT,lR]at h;split at h
 ·injection h with h;subst h
  rw[kD,UP,if_pos hj,U']at hx;rw[kD];exact hx
 ·cases h
def ir(cs:List (Cmd×AT))(i:Nat):Cmd:=(cs[i]?.map (·.1)).getD ⟨0,0,0,false,⟨#[]⟩,⟨#[]⟩,0,0,[]⟩
def mH(cs:List (Cmd×AT))(i:Nat):AT:=(cs[i]?.map (·.2)).getD (.bool false)
theorem lU.at{cs:List (Cmd×AT)}(h:lU m n v cs){i:Nat}(hi:i<cs.length):
  ∃b o cells opn wr,vJ 9 i v=some (.pointer (some ⟨b,o,none⟩))/\b<n/\m b=some (.cells cells 9 opn wr)/\lS (nI cells o) 9=some ((ir cs i).cells (mH cs i))/\
   lC cells (o+8)=some (mH cs i)/\lC cells (o+4)=some (.string (ir cs i).vol)/\lC cells (o+5)=some (.string (ir cs i).oth)/\(ir cs i).Fit/\jn m n (mH cs i) (ir cs i).data:=by
 obtain⟨⟨a,c,rfl,_,h⟩,hd⟩:=h;have hmem:=hd cs[i] (Tb hi);have e1:ir cs i=cs[i].1:=by simp[ir,hi]
 have e2:mH cs i=cs[i].2:=by simp[mH,hi]
 rw[e1,e2];rcases h with rfl|⟨b,o,cells,opn,wr,rfl,h2,h3,h4⟩
 ·simp at hi
 ·have ht:=h4 i hi;exact⟨b,o+i*9,cells,opn,wr,rG hi,h2,h3,ht,pQ ht (by omega) rfl,pQ ht (by omega) rfl,pQ ht (by omega) rfl,hmem⟩
theorem Sk{f:Nat}{fn:AFn}{args:List AT}{R:AT->Prop}(hE:EL f=some fn)(ha:kO args=fn.na)(h:Wr PG EL Y [] 0 (gD PG EL Y fn.code args m n) λX _ _ _ w=>∃v,X=.ret v/\gy v=true/\R v/\SL w (bit n)=0):∃v,Pure (fL PG EL Y f args m n) m n v/\R v:=by rw[lT hE ha];obtain⟨X,e',m',n',r,w,hx,v,rfl,hv,hR,hw⟩:=kF (kG h);refine⟨v,?_,hR⟩;rw[hx,lz,nh hv hw];exact⟨_,rfl⟩
theorem lU.kl{cs:List (Cmd×AT)}(h:lU m n v cs)(hi:i<cs.length):
  ∃b o cells opn wr,vJ 9 i v=some (.pointer (some ⟨b,o,none⟩))/\m b=some (.cells cells 9 opn wr)/\lC cells (o+1)=some (.int .i64 (ir cs i).kind)/\lC cells (o+7)=some (.int .i64 (ir cs i).len):=by
 obtain⟨⟨a,c,rfl,_,h⟩,hd⟩:=h;have e1:ir cs i=cs[i].1:=by simp[ir,hi]
 rw[e1];rcases h with rfl|⟨b,o,cells,opn,wr,rfl,h2,h3,h4⟩
 ·simp at hi
 ·have ht:=h4 i hi;exact⟨b,o+i*9,cells,opn,wr,rG hi,h3,pQ ht (by omega) rfl,pQ ht (by omega) rfl⟩
theorem aeh{cs:List (Cmd×AT)}(hl:lU m n lv cs)(hs:cs.length<=9223372036854775807)(e4 e5:AT)(tl:List AT):∀(d j:Nat) (x0:AT),j+d=cs.length->
  Gv (gD PG EL Y Dc ([x0,.int .i64 (j:Int),e4,e5,lv]++tl) m n) λX e M N w=>M=m/\N=n/\w=0/\((X=.exit 0/\e=[x0,e4,e5,lv]++tl)\/X=.ret (.bool false)):=by
 intro d
 induction d with
 |zero=>intro j x0 hj;refine gA (L:=Dc) (b:=vi) rfl ?_;simp only[vi,SK,SJ];simp(disch:=omega)only[W_,eu,to,hl.len];exact .inl trivial
 |succ d ih=>
  intro j x0 hj;have hjl:j<cs.length:=by omega
  obtain⟨b,o,cells,opn,wr,i1,i2,i3,i4,i5,i6,i7,i8,i9⟩:=hl.at hjl;obtain⟨b',o',cells',opn',wr',q1,q2,q3,q4⟩:=hl.kl hjl;rw[i1]at q1;injection q1 with q1;injection q1 with q1;injection q1 with q1;injection q1 with q1 q1'
  subst q1 q1';rw[i3]at q2;injection q2 with q2;injection q2 with q2
  subst q2;have z1:=i8.vol;have z2:=i8.oth;have z3:=i8.kind;have z4:=i8.len;have z5:=i8.data;refine gA (L:=Dc) (b:=vi) rfl ?_;simp only[vi,SK,SJ];by_cases c1:40<(ir cs j).data.length
  ·simp(disch:=omega)only[W_,eu,to,hl.len,hl.bel,i1,i3,i5,i6,i7,q3,q4,i9.len,i9.bel];exact .inr trivial
  ·by_cases c2:100<IntKind.i64.wrap ((((ir cs j).vol.size+(ir cs j).oth.size:Nat)):Int)
   ·simp(disch:=omega)only[W_,eu,to,hl.len,hl.bel,i1,i3,i5,i6,i7,q3,q4,i9.len,i9.bel];exact .inr trivial
   ·by_cases c3:(ir cs j).kind=5
    ·by_cases c4:40<(ir cs j).len
     ·simp(disch:=omega)only[W_,eu,to,hl.len,hl.bel,i1,i3,i5,i6,i7,q3,q4,i9.len,i9.bel];exact .inr trivial
     ·simp(disch:=omega)only[W_,eu,to,hl.len,hl.bel,i1,i3,i5,i6,i7,q3,q4,i9.len,i9.bel];exact gR (ih (j+1) x0 (by omega)) λX e m' n' w ⟨hM,hN,hw,h⟩=>by subst hM hN hw;exact⟨rfl,rfl,by simp,h⟩
    ·simp(disch:=omega)only[W_,eu,to,hl.len,hl.bel,i1,i3,i5,i6,i7,q3,q4,i9.len,i9.bel];exact gR (ih (j+1) x0 (by omega)) λX e m' n' w ⟨hM,hN,hw,h⟩=>by subst hM hN hw;exact⟨rfl,rfl,by simp,h⟩
theorem N0{cs:List (Cmd×AT)}(hl:lU m n lv cs)(hs:cs.length<=9223372036854775807):∃b,Pure (fL PG EL Y 17 [lv,.int .i64 24] m n) m n (.bool b)/\(b=true->cs.length<=24):=by
 have ho:=hl.one
 suffices h:∃v,Pure (fL PG EL Y 17 [lv,.int .i64 24] m n) m n v/\∃b,v=.bool b/\(b=true->cs.length<=24)from(let⟨v,h1,b,h2,h3⟩:=h;⟨b,h2▸h1,h3⟩)
 refine Sk e17 rfl ?_;simp only[aft];simp(disch:=omega)only[W_,eu,to,ho];refine ic (aeh hl hs (.int .i64 0) (.bool false) [.int .i64 24] cs.length 0 (.bool false) (by omega)) λX e M1 n1 r1 w1 ⟨hM,hN,hw,hX⟩=>?_;subst hM hN hw;rcases hX with⟨hX,he⟩|hX
 ·subst hX he;simp(disch:=omega)only[W_,eu,to,SK,SJ,hl.len];exact⟨_,rfl,rfl,_,rfl,λh=>by have:=of_decide_eq_true h;omega⟩
 ·subst hX;simp(disch:=omega)only[W_,eu,to];exact⟨_,rfl,rfl,_,rfl,λh=>by cases h⟩
theorem Hz{cs:List (Cmd×AT)}(hl:lU m n lv cs)(hs:cs.length<=9223372036854775807):∃b,Pure (fL PG EL Y 5 [lv] m n) m n (.bool b)/\(b=true->cs.length<=24):=by have ho:=hl.one;obtain⟨b,h1,h2⟩:=N0 (Y:=Y) hl hs;refine⟨b,?_,h2⟩;refine gC e5 rfl rfl ?_;simp only[ac5];simp(disch:=omega)only[W_,eu,to,ho];refine fF h1 λr1=>?_;simp(disch:=omega)only[W_,eu,to]
theorem GD(hU:YUp Y)(hC:me Y){es:DE}(h:sF S m n mb vs es k)(hI:Inv S vs)(hS:S<=65536){s:ByteArray}{v:Vo}(hv:gK vs s=some v):Kp (fL PG EL Y 8 [mP mb,.string s] m n) m n λr m' n'=>r=.tuple #[rF vs v,.int .i64 0]:=by refine gG (R:=λr m' n'=>r=.tuple #[rF vs v,.int .i64 0]) e8 rfl λQ hQ=>?_;obtain⟨hmb,pb,dm,pv,hm,P,D,A⟩:=h;have od:=D.one;simp only[ac8,mP];have m0:=λx=>(en m n mb x (by omega)).trans hm;simp(disch:=omega)only[W_,eu,to,uH,m0,od];have fr:∀x c,c<n->(If m n x:FM) c=m c:=λx c hc=>gu;have hsf:=vw (Y:=Y) (P.frame (N':=n+1) (by omega) (fr (some (.cells [.string ⟨#[]⟩,.int .i64 0,.int .i64 0,.int .i64 0,.int .i64 0] 0 false true)))) od;unfold mP at hsf;refine fI hsf λv1 M1 n1 r1 w1 ⟨k1,f1,g1,cv,mv,hv1,F1⟩=>?_;subst hv1;have hif:=pI hU hC F1 hI hS hv;have o1:=F1.c.one;have o2:=F1.m.one;unfold fV at hif;have t1:=(f1 n (by omega)).trans (eB m n (some (.cells [.string ⟨#[]⟩,.int .i64 0,.int .i64 0,.int .i64 0,.int .i64 0] 0 false true)));simp(disch:=omega)only[W_,eu,to,fV];refine fI hif λv2 M2 n2 r2 w2 ⟨k2,f2,g2,hv2⟩=>?_;subst hv2;have t2:=(f2 n (by omega)).trans t1;simp(disch:=omega)only[W_,eu,to,rF,t2];exact hQ _ _ _ _ _ (by omega) (λc hc=>by rw[en _ _ _ _ (by omega),f2 c (by omega),f1 c (by omega),fr _ c hc]) (by simp(disch:=omega)only[fB,eS,eR,and_self,g1,g2]) rfl rfl
theorem GA{es:DE}(h:sF S m n mb vs es k)(hI:Inv S vs){s:ByteArray}{v:Vo}(hv:gK vs s=some v){a:Nat}(ha:a<v.n):Kp (fL PG EL Y 9 [mP mb,.string s,.int .i64 (a:Int)] m n) m n λr m' n'=>r=.tuple #[vP es v a,.int .i64 0]:=by
 refine gG (R:=λr m' n'=>r=.tuple #[vP es v a,.int .i64 0]) e9 rfl λQ hQ=>?_;obtain⟨hmb,pb,dm,pv,hm,P,D,A⟩:=h;have od:=D.one;simp only[ac9,mP];have m0:=λx=>(en m n mb x (by omega)).trans hm;simp(disch:=omega)only[W_,eu,to,uH,m0,od];have fr:∀x c,c<n->(If m n x:FM) c=m c:=λx c hc=>gu;have hbs:=zO (Y:=Y) (P.frame (N':=n+1) (by omega) (fr (some (.cells [.int .u8 0,.int .u8 0,.int .u8 0,.int .u8 0,.int .u8 0,.int .u8 0,.int .u8 0,.int .u8 0] 0 false true)))) (D.frame (N':=n+1) (by omega) (fr _)) hI hv ha;unfold mP at hbs;refine fI hbs λv1 M1 n1 r1 w1 ⟨k1,f1,g1,hv1⟩=>?_;have hB:qP (vP es v a):=CL (let⟨_,_,_,_,h⟩:=D;h) v a;revert hv1 hQ;generalize vP es v a=X at hB ⊢;intro hQ hv1;subst hv1;have t1:=(f1 n (by omega)).trans (eB m n (some (.cells [.int .u8 0,.int .u8 0,.int .u8 0,.int .u8 0,.int .u8 0,.int .u8 0,.int .u8 0,.int .u8 0] 0 false true)));obtain⟨d,hd,rfl⟩:=hB
 have:∃d0 d1 d2 d3 d4 d5 d6 d7,d=[d0,d1,d2,d3,d4,d5,d6,d7]:=by
  match d,hd with
  |[d0,d1,d2,d3,d4,d5,d6,d7],_=>exact⟨_,_,_,_,_,_,_,_,rfl⟩
 obtain⟨d0,d1,d2,d3,d4,d5,d6,d7,rfl⟩:=this;simp only[u8s,Xm];simp(disch:=omega)only[W_,eu,to,t1];exact hQ _ _ _ _ _ (by omega) (λc hc=>by rw[en _ _ _ _ (by omega),en _ _ _ _ (by omega),f1 c (by omega),fr _ c hc]) (by simp(disch:=omega)only[fB,eS,eR,and_self,g1]) rfl rfl
theorem rh(S:Nat):room S []=(S:Int):=by have h:ko S []=Ur S:=List.filter_eq_self.2 λs _=>rfl;unfold room;rw[h,List.length_range];show(S:Int)-((0:Nat):Int)=S;omega
theorem Inv.none(S:Nat):Inv S []:=⟨λv hv=>(by cases hv),List.nodup_nil,Tq _,λv hv=>(by cases hv)⟩
def sA:ByteArray:=⟨#[97]⟩
def sK:ByteArray:=⟨#[107,101,101,112]⟩
theorem Nt:j5 sA:=by
 refine⟨by decide,by decide,by decide,λi h1 h2=>?_⟩;have h2:i<1:=h2;have:i=0:=by omega
 subst this;decide
theorem acG:j5 sK:=by
 refine⟨by decide,by decide,by decide,λi h1 h2=>?_⟩;have h2:i<4:=h2;have:i=0\/i=1\/i=2\/i=3:=by omega
 rcases this with rfl|rfl|rfl|rfl<;>decide
theorem ED(m:FM)(n:Nat):jn m n (.slice none 0 0) []:=⟨none,0,rfl,rfl,.inl rfl⟩
def afA(Y:Nat->List AT->FM->Nat->OR FM):Prop:=∀m n,Pure (fL PG EL Y 10 [] m n) m n (.bool true)
def cA:Cmd:=⟨0,5,0,false,sA,⟨#[]⟩,0,2,[]⟩
theorem adj:jm cA:=⟨⟨by decide,by decide,.inl rfl⟩,.inr (.inr (.inr (.inr (.inl ⟨rfl,Nt,rfl,rfl,rfl,by decide,by decide,by decide,by decide⟩))))⟩
theorem fitA:cA.Fit:=by constructor<;>decide
theorem HL(hU:YUp Y)(hC:me Y)(hN:qS Y)(hY:jf Y)(hCo:Ag Y)(hM:lL Y 164)(hM2:lL Y 56)(hA:ApY Y)(hT:nK Y)(h31:afA Y)(m:FM)(n:Nat):Pure (fL PG EL Y 4 [] m n) m n (.bool true):=by
 refine gC e4 rfl rfl ?_;simp only[ac4];simp(disch:=omega)only[W_,eu,to,IS];refine fF (h31 m n) λr1=>?_;simp(disch:=omega)only[W_,eu,to,IS];refine fI (wx (S:=4) (by decide) (by decide)) λv1 M1 n1 r1 w1 ⟨k1,f1,g1,mb,hv1,l1,MR⟩=>?_;subst hv1;unfold mP;simp(disch:=omega)only[W_,eu,to,IS,lX];refine fI (AN (S:=4) (by decide) (by decide)) λv2 M2 n2 r2 w2 ⟨k2,f2,g2,b,hv2,lb2,P2⟩=>?_;subst hv2;unfold mP;simp(disch:=omega)only[W_,eu,to,IS,lX,uH,lg];have MR2:=MR.frame k2 f2;obtain⟨hmb,qb,dm,pv,hmm,_⟩:=id MR2;have hap:=qF hU hC hN hY hCo hM hM2 hA hT MR2 (Inv.none 4) (by rw[rh];decide) (by decide) (by decide) (by decide) (ED M2 n2) fitA;unfold jx cA sA mP at hap;dsimp only at hap;refine fI hap λv3 M3 n3 r3 w3 ⟨e,x,hv3,ox,k3,h3⟩=>?_;rcases h3 with⟨_,_,h3⟩|⟨h4,h5,h6,vs3,es3,k4,_,MR3,hI3,hr3,h7⟩
 ·exfalso;rcases h3 with h3|⟨_,h3⟩
  ·cases h3
  ·refine h3 adj (.inr ⟨rfl,rfl,?_⟩);rw[rh];decide
 have he:e=0:=by
  rcases h7 with⟨h7,_⟩|⟨h7,_⟩
  ·cases h7
  ·exact h7
 subst he hv3
 have P3:j6 4 M3 n3 b []:=(P2.other (M':=If M2 mb (M3 mb)) hmm (by decide) (by simp) (P2.ne hmm (by simp)) λc hc=>en _ _ _ _ hc).frame k3 λc hc=>by
  by_cases e:c=mb
  ·subst e;exact(eB _ _ _).symm
  ·rw[en _ _ _ _ e];exact h6 c hc e
 simp(disch:=omega)only[W_,eu,to,IS,ox,lX];have f4:∀x c,c<n3->(If M3 n3 x:FM) c=M3 c:=λx c hc=>gu;have t4:=eB M3 n3 (some (.cells [.int .i64 0,.int .i64 0,x] 0 false true));have P4:=P3.frame (N':=n3+1) (by omega) (f4 (some (.cells [.int .i64 0,.int .i64 0,x] 0 false true)));revert P4 t4;generalize (If M3 n3 (some (.cells [.int .i64 0,.int .i64 0,x] 0 false true)):FM)=M4;intro t4 P4;have hva:kW [] sA=0/\enE (0:Nat) (room 4 [])=0:=⟨rfl,by rw[rh];rfl⟩;have hcr:=uJ (Y:=Y) hU hC hN hY hM P4 (Inv.none 4) (by decide) Nt.ok (k:=2) (r:=0) (by decide) (by decide) (by decide);unfold mP at hcr;refine fI hcr λv5 M5 n5 r5 w5 ⟨k5,f5,g5,h5a,h5b⟩=>?_;obtain⟨nv,hnv⟩:=h5b hva;obtain⟨e5,he5,hv5⟩|⟨_,nv',hv5,B5⟩:=h5a
 ·rw[hnv]at hv5;simp at hv5;exact absurd hv5.2.symm he5
 subst hv5;have o5:=B5.one;simp(disch:=omega)only[W_,eu,to,IS,o5,dW o5];have P5:=P4.frame k5 f5;have hA5:=hA P5 (Inv.none 4) (by decide) (by decide) B5 (.rK Nt.ok hva.1 (by decide) (by decide) (by decide));rw[<-kU (P:=PG) (Y:=Y) e13]at hA5;unfold mP at hA5;refine fI hA5 λv6 M6 n6 r6 w6 h6=>?_;have hrm:room 4 (iG ⟨sA,2,0,[]⟩ [])=4:=by decide
 have hI6:=(Inv.none 4).rK (s:=sA) hva.1 (k:=2) (r:=0) (by decide) (by decide) (by decide) (by decide);rcases h6 with⟨h6,_⟩|⟨_,hv6,k6,P6,_,f6,g6⟩
 ·rw[hrm]at h6;exact absurd h6 (by decide)
 subst hv6;have o5':=o5;simp(disch:=omega)only[W_,eu,to,IS];have f7:∀x c,c<n6->(If M6 n6 x:FM) c=M6 c:=λx c hc=>gu;refine fI (Ng (k:=1) (show n6<n6+1 by omega) (eB M6 n6 _)) λv8 M8 n8 r8 w8 ⟨k8,f8,g8,lb,hv8⟩=>?_;subst hv8;have P8:=(P6.frame (N':=n6+1) (by omega) (f7 (some (.cells evC 6 false true)))).frame k8 f8
 have t8:M8 n3=some (.cells [.int .i64 0,.int .i64 0,x] 0 false true):=by
  have hbn:n3≠b:=by have:=P3.1;omega
  exact(f8 n3 (by omega)).trans ((f7 _ n3 (by omega)).trans ((f6 n3 (by omega) hbn).trans ((f5 n3 (by omega)).trans t4)))
 simp(disch:=omega)only[W_,eu,to,IS,lX,t8];have hf8:=En (Y:=Y) P8;unfold mP at hf8;refine fI hf8 λv9 M9 n9 r9 w9 ⟨k9,f9,g9,cv,mv,hv9,F9⟩=>?_;subst hv9;unfold fV;simp(disch:=omega)only[W_,eu,to,IS];have hN9:=hN F9 hI6;unfold fV at hN9;refine fI hN9 λv10 M10 n10 r10 w10 ⟨k10,f10,g10,l,hl,Nl⟩=>?_;have hll:l.length=1:=hl.length_eq;have ol:=Nl.len;rw[hll]at ol;simp(disch:=omega)only[W_,eu,to,IS,ol];have hmbn:n<=mb:=by omega
 have hbn:n<=b:=by omega
 exact(by simp(disch:=omega)only[fB,eS,eR,and_self,g1,g2,h5.mod (show n<=n2 by omega) hmbn,g5,g6.mod (show n<=n5 by omega) hbn,g8,g9,g10])
theorem AZ(t t':Int)(x:AT):∀es:DE,kn t (lW t' x es)=if t=t' then some x else kn t es
 |[]=>by unfold lW kn;rfl
 |p::es=>by
  unfold lW;by_cases h:t'=p.1
  ·rw[if_pos h];unfold kn;by_cases h2:t=t'
   ·simp[h2]
   ·rw[if_neg h2,if_neg h2,if_neg (by rw[<-h];exact h2)]
  ·rw[if_neg h];unfold kn;rw[AZ t t' x es];by_cases h2:t=p.1
   ·rw[if_pos h2,if_neg (by rw[h2];exact Ne.symm h),if_pos h2]
   ·rw[if_neg h2,if_neg h2]
theorem IV{d:List Int}{z:Nat}:∀{L:List Wt} {es:DE},(∀p∈L,p.2=d)->((∃p∈L,p.1=z)\/kn (z:Int) es=some (.agg (u8s d).toArray))->kn (z:Int) (dsF es L)=some (.agg (u8s d).toArray)
 |[],es,h,hz=>by
  rcases hz with⟨p,hp,_⟩|hz
  ·cases hp
  ·exact hz
 |q::L,es,h,hz=>by
  show kn (z:Int) (dsF (lW (q.1:Int) (.agg (u8s q.2).toArray) es) L)=_;rw[h q (Tk ..)];refine IV (λp hp=>h p (SQ _ hp)) ?_;rw[AZ];rcases hz with⟨p,hp,rfl⟩|hz
  ·rcases List.mem_cons.1 hp with rfl|hp
   ·exact .inr (if_pos rfl)
   ·exact .inl ⟨p,hp,rfl⟩
  ·refine .inr ?_;split
   ·rfl
   ·exact hz
theorem ady(k:Nat)(x:Opd)(e:List AT)(m:FM)(n:Nat):gV PG (fL PG EL Y) e m n (.pur (.fld k) [x])=iK m n (KH k (ev e x)):=rfl
theorem fie1(a b c:AT):KH 1 (.agg #[a,b,c])=some b:=rfl
def cK:Cmd:=⟨0,5,0,false,sK,⟨#[]⟩,2,2,[]⟩
theorem adi:jm cK:=⟨⟨by decide,by decide,.inl rfl⟩,.inr (.inr (.inr (.inr (.inl ⟨rfl,acG,rfl,rfl,rfl,by decide,by decide,by decide,by decide⟩))))⟩
theorem fitK:cK.Fit:=by constructor<;>decide
def Av(S:Nat)(M:FM)(N mb j:Nat):Prop:=∃vs es k v,sF S M N mb vs es k/\Inv S vs/\0<=room S vs/\k<=j+1/\gK vs sK=some v/\v.n=2/\v.r=2
theorem Av.frame{M':FM}{N N':Nat}(h:Av S M N mb j)(hN:N<=N')(hf:∀b,b<N->M' b=M b):Av S M' N' mb j:=
 let⟨vs,es,k,v,h1,h2⟩:=h
 ⟨vs,es,k,v,h1.frame hN hf,h2⟩
section
variable(hU:YUp Y)(hC:me Y)(hN:qS Y)(hY:jf Y)(hCo:Ag Y)(hM:lL Y 164)(hM2:lL Y 56)(hA:ApY Y)(hT:nK Y)
include hU hC hN hY hCo hM hM2 hA hT
theorem adY{n0:Nat}{m0:FM}{cs:List (Cmd×AT)}(hl:lU m0 n0 lv cs)(hs:cs.length<=24)(hS:S<=65536)(h0:0<S)(hmb:n0<=mb)(x3 x4 x5 x7 x8 x9 x10 x11:AT)(tl:List AT):∀(dd j:Nat) (x1:AT) (M:FM) (N:Nat),j+dd=cs.length->n0<=N->(∀b,b<n0->M b=m0 b)->Av S M N mb j->
  Gv (gD PG EL Y Fz ([.int .i64 (j:Int),x1,.int .i64 (cs.length:Int),x3,x4,x5,mP mb,x7,x8,x9,x10,x11,lv]++tl) M N) λX e M' N' w=>X=.exit 0/\e=[x1,.int .i64 (cs.length:Int),x3,x4,x5,mP mb,x7,x8,x9,x10,x11,lv]++tl/\N<=N'/\(∀b,b<N->b≠mb->M' b=M b)/\mI w N mb/\Av S M' N' mb cs.length:=by
 intro dd
 induction dd with
 |zero=>
  intro j x0 M N hj hn hm I;have hj:j=cs.length:=by omega
  subst hj;refine gA (L:=Fz) (b:=z7) rfl ?_;simp only[z7,SK,SJ];simp(disch:=omega)only[W_,eu,to,IS,hl.len];exact⟨IN _,λ_ _ _=>trivial,λj _ _=>TD j,I⟩
 |succ d ih=>
  intro j x0 M N hj hn hm I;have hjl:j<cs.length:=by omega
  have hl2:=hl.frame hn hm;obtain⟨b,o,cells,opn,wr,i1,i2,i3,i4,i5,i6,i7,i8,i9⟩:=hl2.at hjl;have o9:=i9.one;unfold Cmd.cells at i4;refine gA (L:=Fz) (b:=z7) rfl ?_;simp only[z7,SK,SJ];have fr:∀x c,c<N->(If M N x:FM) c=M c:=λx c hc=>gu;have hw:IntKind.i64.wrap ((j:Int)+1)=((j+1:Nat):Int):=by rw[wrap_i64 (by omega) (by omega)];omega
  have skip:∀M' N' w0,N<=N'->(∀b,b<N->b≠mb->M' b=M b)->mI w0 N mb->Av S M' N' mb (j+1)->Wr PG EL Y [] w0 (gD PG EL Y Fz (.int .i64 ((j+1:Nat):Int)::x0::.int .i64 (cs.length:Int)::x3::x4::x5::mP mb::x7::x8::x9::x10::x11::lv::tl) M' N') λX e M' N' w=>X=.exit 0/\e=x0::.int .i64 (cs.length:Int)::x3::x4::x5::mP mb::x7::x8::x9::x10::x11::lv::tl/\N<=N'/\(∀b,b<N->b≠mb->M' b=M b)/\mI w N mb/\Av S M' N' mb cs.length:=λM' N' w0 h1 h2 h3 I'=>by refine gR (ih (j+1) x0 M' N' (by omega) (by omega) (λb hb=>(h2 b (by omega) (by omega)).trans (hm b hb)) I') λX e m' n' w ⟨q1,q2,q3,q4,q5,q6⟩=>⟨q1,q2,by omega,λb hb hne=>(q4 b (by omega) hne).trans (h2 b hb hne),λj hj hne=>?_,q6⟩;rw[gv,h3 j hj hne,q5 j (by omega) hne];rfl
  have hkeep:(⟨#[107,101,101,112]⟩:ByteArray)=sK:=rfl;have hmbN:mb<N:=by obtain⟨vs,es,k,v,g1,_⟩:=I;exact g1.1
  have I1:=λx=>I.frame (M':=If M N x) (N':=N+1) (by omega) (fr x);have D1:=λx=>i9.frame (m':=If M N x) (n':=N+1) (by omega) (fr x)
  have call:∀(M':FM),(∀c,c<N->M' c=M c)->Av S M' (N+1) mb j->jn M' (N+1) (mH cs j) (ir cs j).data->((ir cs j).kind=7->sK≠(ir cs j).vol)->Rt (fL PG EL Y 7 [mP mb,jx (ir cs j) (mH cs j)] M' (N+1)) λv m' n' w=>N<=n'/\(∀b,b<N->b≠mb->m' b=M b)/\mI w N mb/\Av S m' n' mb (j+1):=λM' hM' I' D' h7=>by
   obtain⟨vs,es,k,v,g1,g2,g3,g4,g5,g6,g7⟩:=I';refine(qF hU hC hN hY hCo hM hM2 hA hT g1 g2 g3 hS h0 (by omega) D' i8).mono λr m' n' w ⟨e,x,hr,ox,k1,h⟩=>?_;rcases h with⟨q1,q2,_⟩|⟨q1,q2,q3,vs',es',k',q4,q5,q6,q7,q8⟩
   ·exact⟨by omega,λb hb _=>(q1 b (by omega)).trans (hM' b hb),λi hi _=>iO q2 i (by omega),vs,es,k,v,g1.frame k1 q1,g2,g3,by omega,g5,g6,g7⟩
   ·refine⟨by omega,λb hb hne=>(q3 b (by omega) hne).trans (hM' b hb),λi hi hne=>q2 i (by omega) hne,vs',es',k',?_⟩;rcases q8 with⟨_,rfl⟩|⟨_,L,hS,_⟩
    ·exact⟨v,q5,q6,q7,by omega,g5,g6,g7⟩
    ·obtain⟨v',p1,p2,p3⟩:=hS.kZ sK h7 v g5;exact⟨v',q5,q6,q7,by omega,p1,p2.trans g6,p3.trans g7⟩
  unfold jx at call;by_cases c1:(ir cs j).vol=sK
  ·rw[c1]at call;by_cases c2:(ir cs j).kind=7
   ·simp(disch:=omega)only[W_,eu,to,IS,hl.len,i1,i3,i4,o9,STs,c1,hkeep];refine skip _ _ _ (by omega) (λc hc _=>fr _ c hc) (λi hi _=>by simp only[gv,gx];simp;omega) ?_;obtain⟨vs,es,k,v,g1,g2,g3,g4,g5⟩:=I1 _;exact⟨vs,es,k,v,g1,g2,g3,by omega,g5⟩
   ·simp(disch:=omega)only[W_,eu,to,IS,hl.len,i1,i3,i4,o9,STs,c1,hkeep];refine fI (call _ (fr _) (I1 _) (D1 _) λh=>absurd h c2) λv1 M1 n1 r1 w1 ⟨k1,f1,g1,I2⟩=>?_;simp(disch:=omega)only[W_,eu,to,IS];exact skip _ _ _ k1 f1 (λi hi hne=>by simp only[gv,gx,g1 i hi hne];simp;omega) I2
  ·simp(disch:=omega)only[W_,eu,to,IS,hl.len,i1,i3,i4,o9,STs,c1,hkeep];refine fI (call _ (fr _) (I1 _) (D1 _) λ_=>Ne.symm c1) λv1 M1 n1 r1 w1 ⟨k1,f1,g1,I2⟩=>?_;simp(disch:=omega)only[W_,eu,to,IS];exact skip _ _ _ k1 f1 (λi hi hne=>by simp only[gv,gx,g1 i hi hne];simp;omega) I2
end
theorem adK(x m:Nat)(hm:0<m):j3 .rem .u8 (x:Int) (m:Int)=some (.int .u8 ((x % m:Nat):Int)):=by rw[acJ,if_neg (by omega),Int.tmod_eq_emod_of_nonneg (by omega)];rfl
theorem cv_u8(x:Nat)(h:x<256):pP .i64 (.int .u8 (x:Int))=some (.int .i64 (x:Int)):=by show some (Value.int .i64 (mu .i64 (x:Int)))=_;rw[jo,wrap_i64 (by omega) (by omega)]
theorem KJ{v:Vo}(ho:v.Ok S)(hn:v.n=2)(hr:v.r=2)(hR:0<=room S vs):pG vs v 0 2<=(ix vs v:Int)+max 0 (room S vs):=by
 have h1:kY 0 (0+2) v.P=v.P:=by unfold kY;rw[s8 (λp _=>Tq _),zi (λp hp=>by have:=ho.bl p hp;omega)]
 unfold pG;rw[h1];unfold ix;rw[hr];omega
def cW(d:List Int):Cmd:=⟨0,2,0,false,sK,⟨#[]⟩,0,2,[d,d]⟩
theorem adh(d:List Int):jm (cW d):=⟨⟨by dsimp only[cW];decide,by dsimp only[cW];decide,.inl rfl⟩,.inr (.inl ⟨rfl,acG,rfl,by show iF 0 2;decide,by dsimp only[cW];decide,rfl⟩)⟩
theorem fitW(d:List Int):(cW d).Fit:=by constructor<;>first|(dsimp only[cW];decide)|simp[cW]
theorem Kr(hU:YUp Y)(hC:me Y)(hN:qS Y)(hY:jf Y)(hCo:Ag Y)(hM:lL Y 164)(hM2:lL Y 56)(hA:ApY Y)(hT:nK Y){es:DE}(hI:Inv S vs)(hR:0<=room S vs)(hS:S<=65536)(h0:0<S){v:Vo}(hv:gK vs sK=some v)(hn:v.n=2)(hrr:v.r=2){d:List Int}(hd:d.length=8)(h:sF S M N mb vs es k)(hk:k<=900){dv:AT}(hdv:jn M N dv [d,d]):
  Rt (fL PG EL Y 7 [mP mb,jx (cW d) dv] M N) λr m' n' w=>∃x vs' es' k' v',r=.agg #[.int .i64 0,.int .i64 0,x]/\Am.one x=true/\N<=n'/\(∀b,b<N->b≠mb->m' b=M b)/\mI w N mb/\sF S m' n' mb vs' es' k'/\Inv S vs'/\gK vs' sK=some v'/\1<v'.n/\vP es' v' 1=.agg (u8s d).toArray:=by
 refine(qF hU hC hN hY hCo hM hM2 hA hT h hI hR hS h0 hk (c:=cW d) hdv (fitW d)).mono λr m' n' w ⟨e,x,hr,ox,k1,q⟩=>?_;rcases q with⟨q1,q2,q3⟩|⟨q1,q2,q3,vs',es',k',q4,q5,q6,q7,q8⟩
 ·exfalso;rcases q3 with q3|⟨_,q3⟩
  ·cases q3
  ·exact q3 (adh d) (.inl ⟨rfl,v,hv,by rw[hn];exact IN 2,KJ (hI.found hv) hn hrr hR⟩)
 rcases q8 with⟨q8,_⟩|⟨he,L,hSt,he'⟩
 ·cases q8
 subst he;obtain⟨v0,xs,W,p1,p2,p3,p4,p5⟩:=hSt.wr rfl;have p1:gK vs sK=some v0:=p1;rw[hv]at p1;injection p1 with p1
 subst p1;have p2:PlanOk S vs v 0 2 xs W:=p2;have p3:vs'=iG ⟨sK,v.n,v.r,nN xs v.P⟩ vs:=p3;have p4:L=W.zip [d,d]:=p4;have hwl:=p2.wl
 obtain⟨z0,z1,rfl⟩:∃z0 z1,W=[z0,z1]:=by
  match W,hwl with
  |[z0,z1],_=>exact⟨_,_,rfl⟩
 have hlk:lk (nN xs v.P) 1=some z1:=by have:=p2.wa 1 z1 rfl;exact this
 subst p3;refine⟨x,_,es',k',⟨sK,v.n,v.r,nN xs v.P⟩,hr,ox,k1,q3,q2,q5,q6,sH hv rfl,by show 1<v.n;omega,?_⟩;unfold vP;dsimp only;rw[hlk];dsimp only;have hall:∀p∈L,p.2=d:=λp hp=>by rw[p4]at hp;simp at hp;rcases hp with rfl|rfl<;>rfl
 rw[he',IV (d:=d) hall (.inl ⟨(z1,d),by rw[p4];simp,rfl⟩)];rfl
theorem eql51{a b:List Int}(ha:a.length=8)(hb:b.length=8):nk PG .eql 24 (.agg (u8s a).toArray) (.agg (u8s b).toArray)=some (.bool (decide (a=b))):=DN t51 .eql (.inl rfl) ha hb
theorem ND(hU:YUp Y)(hC:me Y)(hN:qS Y)(hY:jf Y)(hCo:Ag Y)(hM:lL Y 164)(hM2:lL Y 56)(hA:ApY Y)(hT:nK Y)(h31:afA Y){cs:List (Cmd×AT)}(hl:lU m n lv cs)(hs:cs.length<=9223372036854775807){sl:Nat}(hsl:sl<256)(hd:d.length=8):Pure (fL PG EL Y 3 [lv,.int .u8 (sl:Int),.agg (u8s d).toArray] m n) m n (.bool true):=by
 refine gC e3 rfl rfl ?_;simp only[ac3];have ol:=hl.one;simp(disch:=omega)only[W_,eu,to,IS,ol,li,lO hd];have fr:∀x c,c<n->(If m n x:FM) c=m c:=λx c hc=>gu;refine fF (HL hU hC hN hY hCo hM hM2 hA hT h31 _ _) λr1=>?_;obtain⟨bb,hb1,hb2⟩:=Hz (Y:=Y) (hl.frame (n':=n+1) (by omega) (fr (some (.cells (u8s d) 0 false true)))) hs;simp(disch:=omega)only[W_,eu,to,IS,ol];refine fF hb1 λr2=>?_
 cases bb with
 |false=>simp(disch:=omega)only[W_,eu,to,IS]
 |true=>
 have hs24:=hb2 rfl;have hS1:(2+sl % 24:Nat)<=65536:=by omega
 have t0:=eB m n (some (.cells (u8s d) 0 false true));have hrem:j3 .rem .u8 (sl:Int) 24=some (.int .u8 ((sl % 24:Nat):Int)):=adK sl 24 (by omega);have hcv:=cv_u8 (sl % 24) (by omega);have hadd:j3 .add .i64 2 ((sl % 24:Nat):Int)=some (.int .i64 ((2+sl % 24:Nat):Int)):=by rw[acK,wrap_i64 (by omega) (by omega)];simp
 have hS2:2<=2+sl % 24:=Nat.le_add_right _ _;generalize 2+sl % 24=S at hadd hS1 hS2;simp(disch:=omega)only[W_,eu,to,IS,hrem,hcv,hadd];revert t0;have fr0:=fr (some (.cells (u8s d) 0 false true));revert fr0;generalize (If m n (some (.cells (u8s d) 0 false true)):FM)=M0;intro fr0 t0;refine fI (wx hS1 (by omega)) λv1 M1 n1 r3 w1 ⟨k1,f1,g1,mb,hv1,l1,MR⟩=>?_;subst hv1;unfold mP;simp(disch:=omega)only[W_,eu,to,IS,lX];have hap:=qF hU hC hN hY hCo hM hM2 hA hT MR (Inv.none S) (by rw[rh];omega) hS1 (by omega) (by omega) (ED M1 n1) fitK;unfold jx cK sK mP at hap;dsimp only at hap;refine fI hap λv3 M3 n3 r4 w3 ⟨e,x,hv3,ox,k3,h3⟩=>?_;rcases h3 with⟨_,_,h3⟩|⟨h4,h5,h6,vs3,es3,k4,hk4,MR3,hI3,hr3,h7⟩
 ·exfalso;rcases h3 with h3|⟨_,h3⟩
  ·cases h3
  ·refine h3 adi (.inr ⟨rfl,rfl,?_⟩);rw[rh];show(2:Int)<=S;omega
 rcases h7 with⟨h7,_⟩|⟨he,L7,h7,_⟩
 ·cases h7
 subst he hv3;have hvs3:=h7.crt rfl;simp(disch:=omega)only[W_,eu,to,IS,ox,lX,hl.len,ol,ady,fie1];have fr3:∀c,c<n->M3 c=m c:=λc hc=>by rw[h6 c (by omega) (by omega),f1 c (by omega),fr0 c hc]
 have I3:Av S M3 n3 mb 0:=by subst hvs3;exact⟨_,es3,k4,_,MR3,hI3,hr3,by omega,FI (w:=⟨sK,2,2,[]⟩) (by simp),rfl,rfl⟩
 refine ic (adY hU hC hN hY hCo hM hM2 hA hT hl hs24 hS1 (by omega) (by omega) _ _ _ _ _ _ _ _ [.int .u8 (sl:Int),.agg (u8s d).toArray] cs.length 0 (.int .i64 0) M3 n3 (by omega) (by omega) fr3 I3) λX e M4 n4 r5 w4 ⟨hX,he,k5,f4,g4,I4⟩=>?_;subst hX he;obtain⟨vs4,es4,k6,v4,MR4,hI4,hr4,hk6,hv4,hn4,hrr4⟩:=I4;simp only[SK,SJ,mP];simp(disch:=omega)only[W_,eu,to,IS];have hmi:=GD hU hC MR4 hI4 hS1 hv4;unfold mP sK at hmi;refine fI hmi λv5 M5 n5 r6 w5 ⟨k7,f5,g5,hv5⟩=>?_;subst hv5;have t5:M5 n=some (.cells (u8s d) 0 false true):=by rw[f5 n (by omega),f4 n (by omega) (by omega),h6 n (by omega) (by omega),f1 n (by omega)];exact t0
 have MR5:=MR4.frame k7 f5;have fin:∀{M:FM} {N:Nat} {dv:AT},sF S M N mb vs4 es4 k6->jn M N dv [d,d]->_:=λh1 h2=>Kr (d:=d) hU hC hN hY hCo hM hM2 hA hT hI4 hr4 hS1 (by omega) hv4 hn4 hrr4 hd h1 (by omega) h2
 obtain⟨d0,d1,d2,d3,d4,d5,d6,d7,rfl⟩:∃d0 d1 d2 d3 d4 d5 d6 d7,d=[d0,d1,d2,d3,d4,d5,d6,d7]:=by
  match d,hd with
  |[d0,d1,d2,d3,d4,d5,d6,d7],_=>exact⟨_,_,_,_,_,_,_,_,rfl⟩
 simp only[u8s,Xm]at t5 fin ⊢;simp(disch:=omega)only[W_,eu,to,IS,rF,lX,t5];obtain⟨ff,u0,u1⟩:=iu (m:=M5) (n:=n5) (a:=.cells [.string v4.nm,.int .i64 (v4.n:Int),.int .i64 (v4.r:Int),.int .i64 (v4.P.length:Int),.int .i64 (ij vs4 v4.P:Int)] 0 false true) (b:=.cells [.int .u8 d0,.int .u8 d1,.int .u8 d2,.int .u8 d3,.int .u8 d4,.int .u8 d5,.int .u8 d6,.int .u8 d7,.int .u8 d0,.int .u8 d1,.int .u8 d2,.int .u8 d3,.int .u8 d4,.int .u8 d5,.int .u8 d6,.int .u8 d7] 8 false true);revert ff u0 u1;generalize (If (If M5 n5 (some (.cells [.string v4.nm,.int .i64 (v4.n:Int),.int .i64 (v4.r:Int),.int .i64 (v4.P.length:Int),.int .i64 (ij vs4 v4.P:Int)] 0 false true))) (n5+1) (some (.cells [.int .u8 d0,.int .u8 d1,.int .u8 d2,.int .u8 d3,.int .u8 d4,.int .u8 d5,.int .u8 d6,.int .u8 d7,.int .u8 d0,.int .u8 d1,.int .u8 d2,.int .u8 d3,.int .u8 d4,.int .u8 d5,.int .u8 d6,.int .u8 d7] 8 false true)):FM)=M6;intro ff u0 u1
 have hdv:jn M6 (n5+2) (.slice (some ⟨n5+1,0,none⟩) 2 2) [[d0,d1,d2,d3,d4,d5,d6,d7],[d0,d1,d2,d3,d4,d5,d6,d7]]:=⟨_,2,rfl,gI (show n5+1<n5+2 by omega),.inr ⟨n5+1,0,_,_,_,rfl,by omega,u1,λi hi=>by
  match i,hi with
  |0,_=>exact⟨rfl,rfl⟩
  |1,_=>exact⟨rfl,rfl⟩⟩⟩
 have fin2:=fin (MR5.frame (N':=n5+2) (by omega) ff) hdv;unfold jx cW sK mP at fin2;dsimp only at fin2;refine fI fin2 λv7 M7 n7 r7 w7 ⟨x7,vs7,es7,k7',v7',hv7,ox7,k8,f7,g7,MR7,hI7,hv7',hn7,hB7⟩=>?_;subst hv7;simp(disch:=omega)only[W_,eu,to,IS,ox7,lX];have mr:=GA (Y:=Y) (MR7.frame (N':=n7+1) (M':=If M7 n7 (some (.cells [.int .i64 0,.int .i64 0,x7] 0 false true))) (by omega) λc hc=>gu) hI7 hv7' hn7;rw[hB7]at mr;unfold mP at mr;refine fI mr λv8 M8 n8 r8 w8 ⟨k9,f8,g8,hv8⟩=>?_;subst hv8;have hmb3:=MR3.1;have y5:M8 n5=_:=(f8 n5 (by omega)).trans ((en _ _ _ _ (by omega)).trans ((f7 n5 (by omega) (by omega)).trans u0));have y7:M8 n7=_:=(f8 n7 (by omega)).trans (eB _ _ _);have yn:M8 n=_:=(f8 n (by omega)).trans ((en _ _ _ _ (by omega)).trans ((f7 n (by omega) (by omega)).trans ((ff n (by omega)).trans t5)));have heq:=eql51 (a:=[d0,d1,d2,d3,d4,d5,d6,d7]) (b:=[d0,d1,d2,d3,d4,d5,d6,d7]) rfl rfl;simp only[u8s,Xm]at heq;simp(disch:=omega)only[W_,eu,to,IS,lX,y5,y7,yn,hrr4,heq];exact(by simp(disch:=omega)only[fB,eS,eR,and_self,g1,h5.mod (show n<=n1 by omega) (by omega),g4.mod (show n<=n3 by omega) (by omega),g5,g7.mod (show n<=n5+2 by omega) (by omega),g8])
end Go.Am.CR
namespace Go.Am
open Go Go.Am.V Go.RowKit
theorem Lq{w:SE}{a:Addr}{n:Nat}{f:Nat->AT}(h0:0<n)(h:∀i,i<n->w.cell? (a.add i)=some (f i)):
  ∃(blk off:Nat) (cc:Array AT) (e:TypeId) (fz:Nat×Nat),a=⟨blk,off,none⟩/\w.heap[blk]?=some (.cells cc e fz)/\off+n<=cc.size/\∀i,i<n->cc[off+i]?=some (f i):=by
 obtain⟨blk,off,spot⟩:=a
 have ha:∀i,(Wg ⟨blk,off,spot⟩ i).block=blk/\(Wg ⟨blk,off,spot⟩ i).off=off+i:=λi=>by
  unfold Wg;by_cases hi:i=0
  ·rw[if_pos hi,hi];exact⟨rfl,rfl⟩
  ·rw[if_neg hi];exact⟨rfl,rfl⟩
 have hc:=h 0 h0;have hadd:Wg ⟨blk,off,spot⟩ 0=⟨blk,off,spot⟩:=by unfold Wg;rw[if_pos rfl]
 rw[hadd]at hc;unfold Ts at hc;split at hc
 ·rename_i cc e fz hh;replace hh:w.heap[blk]?=some (.cells cc e fz):=hh
  cases spot with
  |some s=>simp at hc
  |none=>
   have hall:∀i,i<n->cc[off+i]?=some (f i):=λi hi=>by
    have hci:=h i hi;unfold Ts at hci;rw[(ha i).1,hh,(ha i).2]at hci;replace hci:(if(Wg ⟨blk,off,none⟩ i).spot.isSome then none else cc[off+i]?)=some (f i):=hci;split at hci
    ·cases hci
    ·exact hci
   refine⟨blk,off,cc,e,fz,rfl,hh,?_,hall⟩;have:=(SB.1 (hall (n-1) (by omega))).1;omega
 ·cases hc
open Go Go.RowKit
structure Ent where
 p:Place
 cs:List AT
def vL(L:List (Option Ent)):Ren:=λb=>(L[b]?).bind λo=>o.map (·.p)
def G7(L:List (Option Ent)):FM:=λb=>(L[b]?).bind λo=>o.map λe=>.cells e.cs e.p.sz false false
structure EntOk(w:SE)(ρ:Ren)(e:Ent):Prop where
 ok:∃(cc:Array AT) (ty:TypeId) (fz:Nat×Nat),w.heap[e.p.blk]?=some (.cells cc ty fz)/\e.p.base+e.cs.length<=cc.size/\∀(j:Nat) x,e.cs[j]?=some x->∃y,cc[e.p.base+j]?=some y/\VRel ρ x y
theorem KM{w:SE}{L:List (Option Ent)}(hgl:pt w.heap.size w)(h:∀(i:Nat) e,L[i]?=some (some e)->EntOk w (vL L) e):MRel (vL L) (G7 L) w w.heap.size/\lN (vL L) L.length:=by
 have hlt:∀{b:Nat} {x},w.heap[b]?=some x->b<w.heap.size:=λhb=>(SB.1 hb).1;refine⟨⟨?_,?_,?_,IN _,hgl⟩,?_⟩
 ·intro b p O hp hO;replace hp:((L[b]?).bind λo=>o.map (·.p))=some p:=hp;replace hO:((L[b]?).bind λo=>o.map λe=>Blk.cells e.cs e.p.sz false false)=some O:=hO
  cases hy:L[b]? with
  |none=>rw[hy]at hp;cases hp
  |some o=>
   rw[hy]at hp hO
   cases o with
   |none=>cases hp
   |some e=>
   injection hp with hp;subst hp
   injection hO with hO;subst hO
   obtain⟨cc,ty,fz,h1,h2,h3⟩:=(h b e hy).ok;exact⟨rfl,cc,ty,fz,h1,h3,λh=>absurd h (by decide),λh=>absurd h (by decide),h2⟩
 ·intro b1 b2 p1 p2 O1 O2 _ _ hO1 _ _ hw;replace hO1:((L[b1]?).bind λo=>o.map λe=>Blk.cells e.cs e.p.sz false false)=some O1:=hO1
  cases hy:L[b1]? with
  |none=>rw[hy]at hO1;cases hO1
  |some o=>
   rw[hy]at hO1
   cases o with
   |none=>cases hO1
   |some e=>injection hO1 with hO1;subst hO1;cases hw
 ·intro b p hp;replace hp:((L[b]?).bind λo=>o.map (·.p))=some p:=hp
  cases hy:L[b]? with
  |none=>rw[hy]at hp;cases hp
  |some o=>
   rw[hy]at hp
   cases o with
   |none=>cases hp
   |some e=>
   injection hp with hp;subst hp
   obtain⟨cc,ty,fz,h1,h2,h3⟩:=(h b e hy).ok;exact hlt h1
 ·intro b hb;show(L[b]?).bind _=none;rw[List.getElem?_eq_none (by omega)];rfl
open Go Go.RowKit Go.ChangeShapes
theorem Fb{w:SE}{base k:Nat}{a:Addr}{l:List AT}(h:w.cells? base a k=some l)(hk:0<k):∃(blk off:Nat) (cc:Array AT) (ty:TypeId) (fz:Nat×Nat),a=⟨blk,off,none⟩/\w.heap[blk]?=some (.cells cc ty fz)/\off+k<=cc.size/\l.length=k/\∀j,j<k->cc[off+j]?=l[j]?:=by
 obtain⟨_,hl,hc⟩:=World.cells?_some h
 have hget:∀i,i<k->w.cell? (a.add i)=some (l.getD i undef):=λi hi=>by
  have h1:l[i]?=some (l.getD i undef):=by rw[VY,SH (by omega)];rfl
  have:=hc i hi;rw[h1]at this;exact this
 obtain⟨blk,off,cc,ty,fz,rfl,hh,hs,hcell⟩:=Lq hk hget;refine⟨blk,off,cc,ty,fz,rfl,hh,hs,hl,λj hj=>?_⟩;rw[hcell j hj,VY,SH (by omega)];rfl
theorem aeF(blk off i:Nat):Wg ⟨blk,off,none⟩ i=⟨blk,off+i,none⟩:=by
 unfold Wg;by_cases h:i=0
 ·rw[if_pos h,h];rfl
 ·rw[if_neg h]
def Q8(w:SE)(k:Nat)(R:List AT->Prop)(v:AT)(len:Nat):Prop:=
 (v=.slice none 0 0/\len=0)\/(∃a c,v=.slice (some a) 0 c/\len=0)\/
  ∃(blk off cap:Nat) (cc:Array AT) (ty:TypeId) (fz:Nat×Nat),v=.slice (some ⟨blk,off,none⟩) len cap/\0<len/\len<=cap/\w.heap[blk]?=some (.cells cc ty fz)/\off+len*k<=cc.size/\
   ∀i,i<len->∃l:List AT,l.length=k/\(∀j,j<k->cc[off+i*k+j]?=l[j]?)/\R l
theorem tt{H:Type}{enc:TypeId×AT->H}{P:Program}{w:SE}{held:Bool}{sp:Nat->Bool}{t e k:Nat}{fuel:Nat}{cs:List AT}{x:DataW H×List MemPlace}(ht:P.underlying t=some (.slice e))(ck:P.cellsOf e=k)(hk:0<k)
  (h:DataW.trod enc P w 0 sp held fuel t cs=some x):∃v len,cs=[v]/\len<=maxLen/\Q8 w k (λl=>∃n y,DataW.trod enc P w 0 sp held n e l=some y) v len:=by
 rcases DataW.trod_slice ht h with⟨rfl,_⟩|⟨a,len,cap,elems,rest,n,_,rfl,_,_,hlc,hcm,hel,hi,_⟩
 ·exact⟨_,0,rfl,Tq _,.inl ⟨rfl,rfl⟩⟩
 ·rcases Nat.eq_zero_or_pos len with h0|h0
  ·subst h0;exact⟨_,0,rfl,Tq _,.inr (.inl ⟨a,cap,rfl,rfl⟩)⟩
  ·have key:∀i,i<len->∃l y,w.cells? 0 (a.add (i*k)) k=some l/\DataW.trod enc P w 0 sp held n e l=some y:=λi hil=>by
    have h1:=hi i hil;rw[ck,SH (by omega)]at h1
    cases hc:w.cells? 0 (a.add (i*k)) k with
    |none=>rw[hc]at h1;cases h1
    |some l=>rw[hc]at h1;exact⟨l,_,rfl,h1⟩
   obtain⟨l0,y0,c0,_⟩:=key 0 h0;have ha:a.add (0*k)=a:=by rw[Yy];rfl
   rw[ha]at c0;obtain⟨blk,off,cc,ty,fz,rfl,hh,_,_,_⟩:=Fb c0 hk
   have all:∀i,i<len->∃l:List AT,l.length=k/\off+i*k+k<=cc.size/\(∀j,j<k->cc[off+i*k+j]?=l[j]?)/\∃n y,DataW.trod enc P w 0 sp held n e l=some y:=λi hil=>by
    obtain⟨l,y,c,hy⟩:=key i hil;rw[aeF]at c;obtain⟨blk',off',cc',ty',fz',he,hh',hs,hl,hj⟩:=Fb c hk;injection he with e1 e2 _
    subst e1 e2;rw[hh]at hh';injection hh' with hh';injection hh' with q1 q2 q3
    subst q1;exact⟨l,hl,hs,hj,n,y,hy⟩
   refine⟨_,len,rfl,by omega,.inr (.inr ⟨blk,off,cap,cc,ty,fz,rfl,h0,hlc,hh,?_,λi hil=>?_⟩)⟩
   ·obtain⟨_,_,hs,_⟩:=all (len-1) (by omega);have:len*k=(len-1)*k+k:=by obtain⟨q,rfl⟩:∃q,len=q+1:=⟨len-1,by omega⟩;rw[Nat.add_sub_cancel,Nat.succ_mul]
    omega
   ·obtain⟨l,hl,_,hj,hy⟩:=all i hil;exact⟨l,hl,hj,hy⟩
def intOf:AT->Int
 | .int _ n=>n
 |_=>0
theorem tC{H:Type}{enc:TypeId×AT->H}{P:Program}{w:SE}{held:Bool}{sp:Nat->Bool}{t e k:Nat}{fuel:Nat}{cs:List AT}{x:DataW H×List MemPlace}(ht:P.underlying t=some (.array k e))(he:P.underlying e=some (.int .u8))(ce:P.cellsOf e=1)
  (hl:cs.length=k) (h:DataW.trod enc P w 0 sp held fuel t cs=some x):∃d:List Int,d.length=k/\cs=d.map (Value.int .u8):=by
 obtain⟨xs,m,_,_,_,hn,hall⟩:=DataW.trod_array ht h;refine⟨cs.map intOf,by rw[SC,hl],?_⟩;refine List.ext_getElem (by simp) λi h1 h2=>?_;have h3:=hall i (by omega);rw[ce,Nat.mul_one,SH (by omega)]at h3;obtain⟨z,hz,_,_⟩:=DataW.trod_int he h3;have h4:cs[i]=.int .u8 z:=by have:=congrArg (λl=>l[0]?) hz;simp only[UP,U',Nat.add_zero]at this;rw[if_pos (by omega),SH h1]at this;simpa using this
 rw[Wo,Wo,h4];rfl
def LK(w:SE)(v:AT)(ds:List (List Int)):Prop:=
 (v=.slice none 0 0/\ds=[])\/(∃a c,v=.slice (some a) 0 c/\ds=[])\/
  ∃(blk off cap:Nat) (cc:Array AT) (ty:TypeId) (fz:Nat×Nat),v=.slice (some ⟨blk,off,none⟩) ds.length cap/\0<ds.length/\ds.length<=cap/\w.heap[blk]?=some (.cells cc ty fz)/\off+ds.length*8<=cc.size/\
   ∀i (h:i<ds.length),ds[i].length=8/\∀j,j<8->cc[off+i*8+j]?=(ds[i].map (Value.int .u8))[j]?
theorem Ao{w:SE}{v:AT}{len:Nat}(h:Q8 w 8 (λl=>∃d:List Int,d.length=8/\l=d.map (Value.int .u8)) v len):∃ds,ds.length=len/\LK w v ds:=by
 rcases h with⟨rfl,rfl⟩|⟨a,c,rfl,rfl⟩|⟨blk,off,cap,cc,ty,fz,rfl,h0,h1,h2,h3,h4⟩
 ·exact⟨[],rfl,.inl ⟨rfl,rfl⟩⟩
 ·exact⟨[],rfl,.inr (.inl ⟨a,c,rfl,rfl⟩)⟩
 ·have h5:∀i,i<len->∃d:List Int,d.length=8/\∀j,j<8->cc[off+i*8+j]?=(d.map (Value.int .u8))[j]?:=λi hi=>by obtain⟨l,hl,hj,d,hd,rfl⟩:=h4 i hi;exact⟨d,hd,hj⟩
  have h6:∃f:Nat->List Int,∀i,i<len->(f i).length=8/\∀j,j<8->cc[off+i*8+j]?=((f i).map (Value.int .u8))[j]?:=
   ⟨λi=>if h:i<len then WK (h5 i h)else[],λi hi=>by
    simp only[dif_pos hi]
    exact Wb (h5 i hi)⟩
  obtain⟨f,hf⟩:=h6;have hl:((Ur len).map f).length=len:=by simp
  refine⟨(Ur len).map f,hl,.inr (.inr ⟨blk,off,cap,cc,ty,fz,by rw[hl],by rw[hl];exact h0,by rw[hl];exact h1,h2,by rw[hl];exact h3,λi hi=>?_⟩)⟩;have hi':i<len:=by rw[hl]at hi;exact hi
  have e:((Ur len).map f)[i]=f i:=by rw[Wo,List.getElem_range]
  rw[e];exact hf i hi'
end Go.Am
namespace Go.Am.CR
open Go Go.Am Go.Am.V Go.RowKit Go.ChangeShapes
set_option maxRecDepth 100000
variable{w:SE}{cs:List AT}{fuel:Nat}{held:Bool}{sv:AT}
theorem u36:PG.underlying 36=some (.struct (PG.fieldsOf 36)):=by kernel_rfl
theorem l36:(PG.fieldsOf 36).toList.map (λf=>(f.offset,f.type))=[(0,3),(1,3),(2,3),(3,4),(4,9),(5,9),(6,3),(7,3),(8,31)]:=by kernel_rfl
theorem u3:PG.underlying 3=some (.int .i64):=by kernel_rfl
theorem u9:PG.underlying 9=some .string:=by kernel_rfl
theorem u31:PG.underlying 31=some (.slice 24):=by kernel_rfl
theorem u24:PG.underlying 24=some (.array 8 5):=by kernel_rfl
theorem u5:PG.underlying 5=some (.int .u8):=by kernel_rfl
theorem c36:PG.cellsOf 36=9:=by kernel_rfl
theorem c3:PG.cellsOf 3=1:=by kernel_rfl
theorem c4:PG.cellsOf 4=1:=by kernel_rfl
theorem c9:PG.cellsOf 9=1:=by kernel_rfl
theorem c31:PG.cellsOf 31=1:=by kernel_rfl
theorem c24:PG.cellsOf 24=8:=by kernel_rfl
theorem c5:PG.cellsOf 5=1:=by kernel_rfl
theorem wf_i64{n:Int}(h:(Lit.int .i64 n).wf=true):-9223372036854775808<=n/\n<9223372036854775808:=by
 simp only[Lit.wf,Bool.and_eq_true,decide_eq_true_eq]at h;have h1:IntKind.i64.min=-9223372036854775808:=by kernel_rfl
 have h2:IntKind.i64.max=9223372036854775807:=by kernel_rfl
 rw[h1,h2]at h;omega
theorem ET{H:Type}{enc:TypeId×AT->H}{sp:Nat->Bool}{x:DataW H×List MemPlace}(h:DataW.trod enc PG w 0 sp held fuel 36 cs=some x):
  ∃(c:Cmd) (sv:AT),cs=c.cells sv/\c.Fit/\LK w sv c.data:=by
 obtain⟨xs,n,_,_,hl,hn,hall⟩:=DataW.trod_struct u36 h;rw[c36]at hl
 have fld:∀(i off ty:Nat),[(0,3),(1,3),(2,3),(3,4),(4,9),(5,9),(6,3),(7,3),(8,31)][i]?=some (off,ty)->∃y,DataW.trod enc PG w 0 sp held n ty ((cs.drop off).take (PG.cellsOf ty))=some y:=λi off ty hi=>by
  rw[<-l36,To]at hi
  cases hf:(PG.fieldsOf 36).toList[i]? with
  |none=>rw[hf]at hi;cases hi
  |some f=>
   rw[hf]at hi;injection hi with hi;injection hi with e1 e2
   subst e1 e2;have hf':(PG.fieldsOf 36)[i]?=some f:=by simpa using hf
   have hi9:i<xs.length:=by rw[hn];exact(SB.1 hf').1
   exact⟨xs[i],by rw[hall i f hf',SH hi9]⟩
 match cs,hl with
 |[a0,a1,a2,a3,a4,a5,a6,a7,a8],_=>
  obtain⟨_,h0⟩:=fld 0 0 3 rfl;obtain⟨_,h1⟩:=fld 1 1 3 rfl;obtain⟨_,h2⟩:=fld 2 2 3 rfl;obtain⟨_,h3⟩:=fld 3 3 4 rfl;obtain⟨_,h4⟩:=fld 4 4 9 rfl;obtain⟨_,h5⟩:=fld 5 5 9 rfl;obtain⟨_,h6⟩:=fld 6 6 3 rfl;obtain⟨_,h7⟩:=fld 7 7 3 rfl;obtain⟨_,h8⟩:=fld 8 8 31 rfl;rw[c3]at h0 h1 h2 h6 h7;rw[c4]at h3;rw[c9]at h4 h5;rw[c31]at h8;obtain⟨tag,k0,_,w0⟩:=DataW.trod_int u3 h0;obtain⟨kind,k1,_,w1⟩:=DataW.trod_int u3 h1;obtain⟨ord,k2,_,w2⟩:=DataW.trod_int u3 h2;obtain⟨force,k3,_⟩:=DataW.trod_bool t4 h3;obtain⟨vol,k4,_,w4⟩:=DataW.trod_string u9 h4;obtain⟨oth,k5,_,w5⟩:=DataW.trod_string u9 h5;obtain⟨at_,k6,_,w6⟩:=DataW.trod_int u3 h6;obtain⟨len,k7,_,w7⟩:=DataW.trod_int u3 h7;obtain⟨sv,dl,k8,hdl,hS⟩:=tt u31 c24 (by omega) h8
  obtain⟨ds,hds,hD⟩:=Ao (w:=w) (v:=sv) (len:=dl) (by
   rcases hS with h|h|⟨blk,off,cap,cc,ty,fz,e1,e2,e3,e4,e5,e6⟩
   ·exact .inl h
   ·exact .inr (.inl h)
   ·refine .inr (.inr ⟨blk,off,cap,cc,ty,fz,e1,e2,e3,e4,e5,λi hi=>?_⟩);obtain⟨l,q1,q2,n',y,q3⟩:=e6 i hi;obtain⟨d,hd,rfl⟩:=tC u24 u5 c5 q1 q3
    exact⟨_,q1,q2,d,hd,rfl⟩)
  simp only[List.drop_succ_cons,UZ,List.take_succ_cons,List.take_zero,Wm,and_true]at k0 k1 k2 k3 k4 k5 k6 k7 k8;subst k0 k1;subst k2 k3;subst k4 k5;subst k6 k7 k8;exact⟨⟨tag,kind,ord,force,vol,oth,at_,len,ds⟩,_,rfl,⟨wf_i64 w0,wf_i64 w1,wf_i64 w2,wf_i64 w6,wf_i64 w7,w4,w5,by show ds.length<=_;rw[hds];exact hdl⟩,hD⟩
def wc(ds:List (List Int)):List AT:=(ds.map λd=>d.map (Value.int .u8)).flatten
theorem tG(d:List Int)(ds:List (List Int)):wc (d::ds)=u8s d++wc ds:=rfl
theorem Ay:∀{ds:List (List Int)},(∀d∈ds,d.length=8)->(wc ds).length=ds.length*8
 |[],_=>rfl
 |d::ds,h=>by rw[tG,IT,Ay λe he=>h e (SQ _ he),u8s,SC,h d (Tk ..),SA];omega
theorem tF:∀{ds:List (List Int)},(∀d∈ds,d.length=8)->∀i (hi:i<ds.length),((wc ds).drop (i*8)).take 8=u8s ds[i]
 |d::ds,h,0,_=>by rw[tG,Yy,UZ,Xn (by rw[u8s,SC,h d (Tk ..)];exact IN _),Va (by rw[u8s,SC,h d (Tk ..)];exact IN _)];rfl
 |d::ds,h,i+1,hi=>by
  have hl:(u8s d).length=8:=by rw[u8s,SC,h d (Tk ..)]
  rw[tG,show(i+1)*8=(u8s d).length+i*8 by rw[hl];omega,List.drop_append,Nat.add_sub_cancel_left,List.drop_eq_nil_of_le (by omega),SJ];exact tF (λe he=>h e (SQ _ he)) i (by simpa using hi)
theorem aa6{ds:List (List Int)}(h:LK w sv ds)(i:Nat):∃(o:Option Ent) (v:AT),(∀ρ:Ren,(∀e,o=some e->ρ i=some e.p)->VRel ρ v sv)/\(∀ρ e,o=some e->EntOk w ρ e)/\
  ∀(m:FM) (n:Nat),i<n->(∀e,o=some e->m i=some (.cells e.cs e.p.sz false false))->jn m n v ds:=by
 rcases h with⟨rfl,rfl⟩|⟨a,c,rfl,rfl⟩|⟨blk,off,cap,cc,ty,fz,rfl,h0,h1,h2,h3,h4⟩
 ·exact⟨none,.slice none 0 0,λρ _=>.flat rfl,λρ e h=>(by cases h),λm n _ _=>jn.nil m n⟩
 ·exact⟨none,.slice (some ⟨i,0,none⟩) 0 VAG,λρ _=>.vag,λρ e h=>(by cases h),λm n hi _=>⟨_,_,rfl,gI (show i<n from hi),.inl rfl⟩⟩
 ·have hall:∀d∈ds,d.length=8:=λd hd=>by obtain⟨i,hi,rfl⟩:=Wx.1 hd;exact(h4 i hi).1
  have hlen:=Ay hall;refine⟨some ⟨⟨blk,off,cap*8,8⟩,wc ds⟩,.slice (some ⟨i,0,none⟩) ds.length UNK,λρ hρ=>?_,λρ e he=>?_,λm n hi hm=>?_⟩
  ·exact VRel.slice (p:=⟨blk,off,cap*8,8⟩) (hρ _ rfl) h1 (λ_=>by show 0+cap*8=cap*8;omega) (λh=>absurd rfl h) (by decide)
  ·injection he with he;subst he
   refine⟨cc,ty,fz,h2,by show off+(wc ds).length<=_;rw[hlen];exact h3,λj x hx=>?_⟩;replace hx:(wc ds)[j]?=some x:=hx;have hj:j<ds.length*8:=by rw[<-hlen];exact(S'.1 hx).1
   have hq:j / 8<ds.length:=by omega
   have hr:j % 8<8:=Nat.mod_lt _ (by omega);have hd:=tF hall (j / 8) hq;have hx2:(u8s ds[j / 8])[j % 8]?=some x:=by rw[<-hd,UP,if_pos hr,U',show j / 8*8+j % 8=j by omega];exact hx
   refine⟨x,?_,?_⟩
   ·show cc[off+j]?=some x;have:=(h4 (j / 8) hq).2 (j % 8) hr;rw[show off+j / 8*8+j % 8=off+j by omega]at this;rw[this];exact hx2
   ·rw[u8s,To]at hx2
    cases hz:(ds[j / 8])[j % 8]? with
    |none=>rw[hz]at hx2;cases hx2
    |some z=>rw[hz]at hx2;injection hx2 with hx2;subst hx2;exact .int _ _ _
  ·refine⟨_,_,rfl,gI (show i<n from hi),.inr ⟨i,0,wc ds,false,false,rfl,hi,hm _ rfl,λk hk=>⟨(h4 k hk).1,?_⟩⟩⟩;unfold je;rw[lR,jT,TU,if_pos (by rw[UF,hlen];omega),tF hall k hk]
def tbl{α:Type}(n:Nat)(f:Nat->α):List α:=(Ur n).map f
theorem uc{α:Type}(n:Nat)(f:Nat->α):(tbl n f).length=n:=by simp[tbl]
theorem BI{α:Type}{n i:Nat}(f:Nat->α)(h:i<n):(tbl n f)[i]?=some (f i):=by simp[tbl,h]
theorem u22:PG.underlying 22=some (.slice 36):=by kernel_rfl
def Jn(w:SE)(v:AT)(cs:List (Cmd×AT)):Prop:=
 ((v=.slice none 0 0/\cs=[])\/(∃a c,v=.slice (some a) 0 c/\cs=[])\/
  ∃(blk off cap:Nat) (cc:Array AT) (ty:TypeId) (fz:Nat×Nat),v=.slice (some ⟨blk,off,none⟩) cs.length cap/\0<cs.length/\cs.length<=cap/\w.heap[blk]?=some (.cells cc ty fz)/\off+cs.length*9<=cc.size/\
   ∀i (h:i<cs.length),∀j,j<9->cc[off+i*9+j]?=(cs[i].1.cells cs[i].2)[j]?)/\∀c∈cs,c.1.Fit/\LK w c.2 c.1.data
theorem CB{H:Type}{enc:TypeId×AT->H}{sp:Nat->Bool}{x:DataW H×List MemPlace}(h:DataW.trod enc PG w 0 sp held fuel 22 cs=some x):
  ∃v l,cs=[v]/\l.length<=maxLen/\Jn w v l:=by
 obtain⟨v,len,rfl,hlen,hS⟩:=tt u22 c36 (by omega) h;rcases hS with⟨rfl,rfl⟩|⟨a,c,rfl,rfl⟩|⟨blk,off,cap,cc,ty,fz,rfl,h0,h1,h2,h3,h4⟩
 ·exact⟨_,[],rfl,Tq _,.inl ⟨rfl,rfl⟩,λc h=>by cases h⟩
 ·exact⟨_,[],rfl,Tq _,.inr (.inl ⟨a,c,rfl,rfl⟩),λc h=>by cases h⟩
 ·have h5:∀i,i<len->∃c:Cmd×AT,(∀j,j<9->cc[off+i*9+j]?=(c.1.cells c.2)[j]?)/\c.1.Fit/\LK w c.2 c.1.data:=λi hi=>by obtain⟨l,hl,hj,n,y,hy⟩:=h4 i hi;obtain⟨c,sv,rfl,hF,hD⟩:=ET hy;exact⟨(c,sv),hj,hF,hD⟩
  have h6:∃f:Nat->Cmd×AT,∀i,i<len->(∀j,j<9->cc[off+i*9+j]?=((f i).1.cells (f i).2)[j]?)/\(f i).1.Fit/\LK w (f i).2 (f i).1.data:=
   ⟨λi=>if h:i<len then WK (h5 i h)else(⟨0,0,0,false,⟨#[]⟩,⟨#[]⟩,0,0,[]⟩,.bool false),λi hi=>by
    simp only[dif_pos hi]
    exact Wb (h5 i hi)⟩
  obtain⟨f,hf⟩:=h6;have hl:=uc len f;have hat:∀i (h:i<(tbl len f).length),(tbl len f)[i]=f i:=λi h=>by have:=BI f (show i<len by rw[hl]at h;exact h);rw[SH h]at this;exact Option.some.inj this
  refine⟨_,tbl len f,rfl,by rw[hl];exact hlen,.inr (.inr ⟨blk,off,cap,cc,ty,fz,by rw[hl],by rw[hl];exact h0,by rw[hl];exact h1,h2,by rw[hl];exact h3,λi hi=>?_⟩),λc hc=>?_⟩
  ·rw[hat i hi];exact(hf i (by rw[hl]at hi;exact hi)).1
  ·obtain⟨i,hi,rfl⟩:=Wx.1 hc;rw[hat i hi];exact(hf i (by rw[hl]at hi;exact hi)).2
theorem zH(f:Nat->List AT)(hf:∀i,(f i).length=9):∀(n i:Nat),i<n->lS (nI ((tbl n f).flatten) (0+i*9)) 9=some (f i):=by
 have hl:∀n,(tbl n f).flatten.length=n*9:=λn=>by
  induction n with
  |zero=>rfl
  |succ n ih=>rw[tbl,Xp,Uu,WD,IT];simp only[Uc,Xx,YB,List.flatten_nil,SN,hf];rw[show(Xm f (Ur n)).flatten.length=n*9 from ih];omega
 intro n i hi;rw[TU,lR,jT,if_pos (by rw[UF,hl];omega)]
 congr 1
 induction n with
 |zero=>omega
 |succ n ih=>
  have e:(tbl (n+1) f).flatten=(tbl n f).flatten++f n:=by rw[tbl,Xp,Uu,WD];simp[tbl]
  rw[e];rcases Nat.lt_or_ge i n with h|h
  ·rw[List.drop_append_of_le_length (by rw[hl];omega),Xn (by rw[UF,hl];omega)];exact ih h
  ·obtain rfl:i=n:=by omega
   have hz:((tbl i f).flatten++f i).drop (i*9)=f i:=by rw[<-hl i,List.drop_left]
   rw[hz,Va (by rw[hf];exact IN _)]
theorem NZ(f:Nat->List AT)(hf:∀i,(f i).length=9)(n:Nat):(tbl n f).flatten.length=n*9:=by
 induction n with
 |zero=>rfl
 |succ n ih=>rw[tbl,Xp,Uu,WD,IT];simp only[Uc,Xx,YB,List.flatten_nil,SN,hf];rw[show(Xm f (Ur n)).flatten.length=n*9 from ih];omega
theorem OA{cs:List (Cmd×AT)}(h:Jn w sv cs):∃(L:List (Option Ent)) (v:AT) (cs':List (Cmd×AT)),L.length=1+cs.length/\cs'.length=cs.length/\
  (∀ρ:Ren,(∀(i:Nat) e,L[i]?=some (some e)->ρ i=some e.p)->VRel ρ v sv/\∀(i:Nat) e,L[i]?=some (some e)->EntOk w ρ e)/\
  ∀(m:FM) (n:Nat),L.length<=n->(∀(i:Nat) e,L[i]?=some (some e)->m i=some (.cells e.cs e.p.sz false false))->lU m n v cs':=by
 obtain⟨h,hall⟩:=h;have hd:∀i,i<cs.length->∃(ov:Option Ent×AT),(∀ρ:Ren,(∀e,ov.1=some e->ρ (1+i)=some e.p)->VRel ρ ov.2 (mH cs i))/\(∀ρ e,ov.1=some e->EntOk w ρ e)/\
   ∀(m:FM) (n:Nat),1+i<n->(∀e,ov.1=some e->m (1+i)=some (.cells e.cs e.p.sz false false))->jn m n ov.2 (ir cs i).data:=λi hi=>by
  have hm:=hall _ (Tb hi);have e1:ir cs i=cs[i].1:=by simp[ir,hi]
  have e2:mH cs i=cs[i].2:=by simp[mH,hi]
  rw[e1,e2];obtain⟨o,v,k1,k2,k3⟩:=aa6 hm.2 (1+i);exact⟨(o,v),k1,k2,k3⟩
 have hg:∃g:Nat->Option Ent×AT,∀i,i<cs.length->(∀ρ:Ren,(∀e,(g i).1=some e->ρ (1+i)=some e.p)->VRel ρ (g i).2 (mH cs i))/\(∀ρ e,(g i).1=some e->EntOk w ρ e)/\
   ∀(m:FM) (n:Nat),1+i<n->(∀e,(g i).1=some e->m (1+i)=some (.cells e.cs e.p.sz false false))->jn m n (g i).2 (ir cs i).data:=
  ⟨λi=>if h:i<cs.length then WK (hd i h)else(none,.bool false),λi hi=>by
   simp only[dif_pos hi]
   exact Wb (hd i hi)⟩
 obtain⟨g,hg⟩:=hg;have hlc:=uc cs.length (λi=>(ir cs i,(g i).2));have hcm:∀i (h:i<(tbl cs.length (λi=>(ir cs i,(g i).2))).length),(tbl cs.length (λi=>(ir cs i,(g i).2)))[i]=(ir cs i,(g i).2):=λi h=>by have:=BI (λi=>(ir cs i,(g i).2)) (show i<cs.length by rw[hlc]at h;exact h);rw[SH h]at this;exact Option.some.inj this
 have hfit:∀i,i<cs.length->(ir cs i).Fit:=λi hi=>by rw[show ir cs i=cs[i].1 by simp[ir,hi]];exact(hall _ (Tb hi)).1
 have build:∀(o:Option Ent) (v:AT),
   (∀ρ:Ren,(∀e,o=some e->ρ 0=some e.p)->VRel ρ v sv)->
   (∀ρ:Ren,(∀i,i<cs.length->VRel ρ (g i).2 (mH cs i))->∀e,o=some e->EntOk w ρ e)->
   (∀(m:FM) (n:Nat),0<n->(∀e,o=some e->m 0=some (.cells e.cs e.p.sz false false))->∃a c,v=.slice a (tbl cs.length (λi=>(ir cs i,(g i).2))).length c/\iW n v=true/\(tbl cs.length (λi=>(ir cs i,(g i).2))=[]\/∃b o cells opn wr,a=some ⟨b,o,none⟩/\b<n/\m b=some (.cells cells 9 opn wr)/\∀i (h:i<(tbl cs.length (λi=>(ir cs i,(g i).2))).length),lS (nI cells (o+i*9)) 9=some ((tbl cs.length (λi=>(ir cs i,(g i).2)))[i].1.cells (tbl cs.length (λi=>(ir cs i,(g i).2)))[i].2)))->
   ∃(L:List (Option Ent)) (v:AT) (cs':List (Cmd×AT)),L.length=1+cs.length/\cs'.length=cs.length/\
    (∀ρ:Ren,(∀(i:Nat) e,L[i]?=some (some e)->ρ i=some e.p)->VRel ρ v sv/\∀(i:Nat) e,L[i]?=some (some e)->EntOk w ρ e)/\
    ∀(m:FM) (n:Nat),L.length<=n->(∀(i:Nat) e,L[i]?=some (some e)->m i=some (.cells e.cs e.p.sz false false))->lU m n v cs':=λo v b1 b2 b3=>by
  have hL0:(o::tbl cs.length (λi=>(g i).1))[0]?=some o:=rfl;have hLs:∀i,i<cs.length->(o::tbl cs.length (λi=>(g i).1))[1+i]?=some (g i).1:=λi hi=>by rw[Nat.add_comm,UD];exact BI _ hi
  refine⟨o::tbl cs.length (λi=>(g i).1),v,tbl cs.length (λi=>(ir cs i,(g i).2)),by rw[SA,uc];omega,hlc,λρ hρ=>?_,λm n hn hm=>?_⟩
  ·have hv:∀i,i<cs.length->VRel ρ (g i).2 (mH cs i):=λi hi=>(hg i hi).1 ρ λe he=>hρ (1+i) e (by rw[hLs i hi,he]);refine⟨b1 ρ λe he=>hρ 0 e (by rw[hL0,he]),λi e he=>?_⟩
   match i with
   |0=>rw[hL0]at he;injection he with he;exact b2 ρ hv e he
   |i+1=>
    rw[UD]at he;have hi:i<cs.length:=by have:=(S'.1 he).1;rw[uc]at this;exact this
    rw[BI _ hi]at he;injection he with he
    exact(hg i hi).2.1 ρ e he
  ·rw[SA,uc]at hn;refine⟨b3 m n (by omega) λe he=>hm 0 e (by rw[hL0,he]),λc hc=>?_⟩;obtain⟨i,hi,rfl⟩:=Wx.1 hc;rw[hcm i hi];have hi':i<cs.length:=by rw[hlc]at hi;exact hi
   exact⟨hfit i hi',(hg i hi').2.2 m n (by omega) λe he=>hm (1+i) e (by rw[hLs i hi',he])⟩
 rcases h with⟨rfl,rfl⟩|⟨a,c,rfl,rfl⟩|⟨blk,off,cap,cc,ty,fz,rfl,h0,h1,h2,h3,h4⟩
 ·exact build none (.slice none 0 0) (λρ _=>.flat rfl) (λρ _ e h=>(by cases h)) λm n hn _=>⟨none,0,rfl,rfl,.inl rfl⟩
 ·exact build none (.slice (some ⟨0,0,none⟩) 0 VAG) (λρ _=>.vag) (λρ _ e h=>(by cases h)) λm n hn _=>⟨_,_,rfl,gI (show 0<n from hn),.inl rfl⟩
 ·have hcl:∀(f:Nat->AT) (i:Nat),((ir cs i).cells (f i)).length=9:=λf i=>rfl;have hfl:=NZ (λi=>(ir cs i).cells (g i).2) (hcl _) cs.length;refine build (some ⟨⟨blk,off,cap*9,9⟩,(tbl cs.length (λi=>(ir cs i).cells (g i).2)).flatten⟩) (.slice (some ⟨0,0,none⟩) cs.length UNK) (λρ hρ=>?_) (λρ hv e he=>?_) λm n hn hm=>?_
  ·exact VRel.slice (p:=⟨blk,off,cap*9,9⟩) (hρ _ rfl) h1 (λ_=>by show 0+cap*9=cap*9;omega) (λh=>absurd rfl h) (by decide)
  ·injection he with he;subst he
   refine⟨cc,ty,fz,h2,by show off+(tbl cs.length (λi=>(ir cs i).cells (g i).2)).flatten.length<=_;rw[hfl];exact h3,λj x hx=>?_⟩;replace hx:((tbl cs.length (λi=>(ir cs i).cells (g i).2)).flatten)[j]?=some x:=hx;have hj:j<cs.length*9:=by rw[<-hfl];exact(S'.1 hx).1
   have hq:j / 9<cs.length:=by omega
   have hr:j % 9<9:=Nat.mod_lt _ (by omega);have ht:=zH (λi=>(ir cs i).cells (g i).2) (hcl _) cs.length (j / 9) hq;rw[TU,lR,jT]at ht;split at ht
   next=>
    injection ht with ht
    have hx2:((ir cs (j / 9)).cells (g (j / 9)).2)[j % 9]?=some x:=by rw[<-ht,UP,if_pos hr,U',show j / 9*9+j % 9=j by omega];exact hx
    have hc4:=h4 (j / 9) hq (j % 9) hr;rw[show off+j / 9*9+j % 9=off+j by omega]at hc4;have e1:ir cs (j / 9)=cs[j / 9].1:=by simp[ir,hq]
    have e2:mH cs (j / 9)=cs[j / 9].2:=by simp[mH,hq]
    rw[<-e1,<-e2]at hc4;have hrel:gY ρ ((ir cs (j / 9)).cells (g (j / 9)).2) ((ir cs (j / 9)).cells (mH cs (j / 9))):=.cons (.flat rfl) (.cons (.flat rfl) (.cons (.flat rfl) (.cons (.flat rfl) (.cons (.flat rfl) (.cons (.flat rfl) (.cons (.flat rfl) (.cons (.flat rfl) (.cons (hv _ hq) (.nil _)))))))));have hlt:j % 9<((ir cs (j / 9)).cells (mH cs (j / 9))).length:=hr;refine⟨((ir cs (j / 9)).cells (mH cs (j / 9)))[j % 9],?_,?_⟩
    ·show cc[off+j]?=_;rw[hc4,SH hlt]
    ·exact hrel.2 (j % 9) x _ hx2 (SH hlt)
   next=>cases ht
  ·refine⟨_,_,by rw[hlc],gI (show 0<n from hn),.inr ⟨0,0,_,false,false,rfl,hn,hm _ rfl,λi hi=>?_⟩⟩;rw[hcm i hi];exact zH (λi=>(ir cs i).cells (g i).2) (hcl _) cs.length i (by rw[hlc]at hi;exact hi)
end Go.Am.CR
namespace Go.Proofs
open Go.Shelf
def Tryz.Hm:Go.Shelf.Ren:=⟨fun|5=>164|7=>122|n=>n,fun|23=>61|25=>9|3=>143|4=>4|20=>20|n=>n,fun|n=>n⟩
theorem Tryz.OC:Go.Proofs.SlLaysW.n5 SI Tryz.Hm:={
 mixed:=by kernel_rfl
 f5:=⟨Tryz.f164.name,by decide,Tryz.func164.trans (congrArg some (by kernel_rfl))⟩
 f7:=Tryz.func122.trans (congrArg some (by kernel_rfl))
 t4:=Ut
 a4:=Vx
 z4:=Vi
 v4:=UK
 t20:=W5
 a20:=XW
 z20:=XH
 v20:=Xi
 t23:=YC
 a23:=Tryz.isAgg61
 z23:=Tryz.sizeOf61
 v23:=Tryz.zeroValue61}
def Tryz.Ho:Go.Shelf.Ren:=⟨fun|5=>56|7=>122|n=>n,fun|23=>67|25=>3|3=>24|4=>4|20=>20|n=>n,fun|n=>n⟩
theorem Tryz.OE:Go.Proofs.SlLaysW.n5 SI Tryz.Ho:={
 mixed:=by kernel_rfl
 f5:=⟨Tryz.f56.name,by decide,Tryz.func56.trans (congrArg some (by kernel_rfl))⟩
 f7:=Tryz.func122.trans (congrArg some (by kernel_rfl))
 t4:=Ut
 a4:=Vx
 z4:=Vi
 v4:=UK
 t20:=W5
 a20:=XW
 z20:=XH
 v20:=Xi
 t23:=Tryz.underlying67
 a23:=Tryz.isAgg67
 z23:=Tryz.sizeOf67
 v23:=Tryz.zeroValue67}
def Tryz.Ec:Go.Shelf.Ren:=⟨fun|160=>116|232=>179|231=>178|227=>180|234=>182|233=>181|236=>184|235=>183|228=>270|271=>273|151=>272|197=>271|120=>345|152=>344|260=>343|137=>383|119=>384|224=>385|225=>386|217=>408|266=>415|n=>n,fun|9=>9|4=>4|3=>3|5=>5|117=>312|116=>311|0=>0|124=>315|21=>21|105=>407|46=>296|119=>490|139=>493|138=>492|n=>n,fun|3=>1|4=>2|n=>n⟩
theorem Tryz.aaG:Go.Proofs.Lays.n160 SI Tryz.Ec:={
 mixed:=by kernel_rfl
 f119:=Tryz.func384.trans (congrArg some (by kernel_rfl))
 f120:=Tryz.func345.trans (congrArg some (by kernel_rfl))
 f137:=Tryz.func383.trans (congrArg some (by kernel_rfl))
 f151:=Tryz.func272.trans (congrArg some (by kernel_rfl))
 f152:=Tryz.func344.trans (congrArg some (by kernel_rfl))
 f160:=Tryz.func116.trans (congrArg some (by kernel_rfl))
 f197:=Tryz.func271.trans (congrArg some (by kernel_rfl))
 f217:=Tryz.func408.trans (congrArg some (by kernel_rfl))
 f224:=Tryz.func385.trans (congrArg some (by kernel_rfl))
 f225:=Tryz.func386.trans (congrArg some (by kernel_rfl))
 f227:=Tryz.func180.trans (congrArg some (by kernel_rfl))
 f228:=Tryz.func270.trans (congrArg some (by kernel_rfl))
 f231:=Tryz.func178.trans (congrArg some (by kernel_rfl))
 f232:=Tryz.func179.trans (congrArg some (by kernel_rfl))
 f233:=Tryz.func181.trans (congrArg some (by kernel_rfl))
 f234:=Tryz.func182.trans (congrArg some (by kernel_rfl))
 f235:=Tryz.func183.trans (congrArg some (by kernel_rfl))
 f236:=Tryz.func184.trans (congrArg some (by kernel_rfl))
 f260:=Tryz.func343.trans (congrArg some (by kernel_rfl))
 f266:=Tryz.func415.trans (congrArg some (by kernel_rfl))
 f271:=Tryz.func273.trans (congrArg some (by kernel_rfl))
 t0:=Vj
 a0:=V0
 z0:=VN
 v0:=Vs
 t3:=Vk
 a3:=V2
 z3:=VO
 v3:=Vt
 t4:=Ut
 a4:=Vx
 z4:=Vi
 v4:=UK
 t5:=Wk
 a5:=Yd
 z5:=XX
 v5:=Xq
 t9:=UX
 a9:=VH
 z9:=VA
 v9:=U6
 t21:=Tryz.underlying21
 a21:=Tryz.isAgg21
 z21:=Tryz.sizeOf21
 v21:=Tryz.zeroValue21
 t46:=WO
 a46:=XI
 z46:=Xz
 v46:=W6
 t105:=Tryz.underlying407
 a105:=Tryz.isAgg407
 z105:=Tryz.sizeOf407
 v105:=Tryz.zeroValue407
 t116:=Tryz.underlying311
 a116:=Tryz.isAgg311
 z116:=Tryz.sizeOf311
 t117:=Tryz.underlying312
 a117:=Tryz.isAgg312
 z117:=Tryz.sizeOf312
 v117:=Tryz.zeroValue312
 t119:=Tryz.underlying490
 a119:=Tryz.isAgg490
 z119:=Tryz.sizeOf490
 t124:=Tryz.underlying315
 a124:=Tryz.isAgg315
 z124:=Tryz.sizeOf315
 v124:=Tryz.zeroValue315
 t138:=Tryz.underlying492
 a138:=Tryz.isAgg492
 z138:=Tryz.sizeOf492
 v138:=Tryz.zeroValue492
 t139:=Tryz.underlying493
 a139:=Tryz.isAgg493
 z139:=Tryz.sizeOf493
 v139:=Tryz.zeroValue493
 g3:=by kernel_rfl
 g4:=by kernel_rfl}
def Tryz.Ky:Go.Shelf.Ren:=⟨fun|4=>388|n=>n,fun|22=>148|25=>231|3=>3|4=>4|9=>9|20=>20|0=>0|n=>n,fun|n=>n⟩
theorem Tryz.acL:Go.Proofs.Lays8.n4 SI Tryz.Ky:={
 mixed:=by kernel_rfl
 f4:=⟨Tryz.f388.name,by decide,Tryz.func388.trans (congrArg some (by kernel_rfl))⟩
 t0:=Vj
 a0:=V0
 z0:=VN
 v0:=Vs
 t3:=Vk
 a3:=V2
 z3:=VO
 v3:=Vt
 t4:=Ut
 a4:=Vx
 z4:=Vi
 v4:=UK
 t9:=UX
 a9:=VH
 z9:=VA
 v9:=U6
 t20:=W5
 a20:=XW
 z20:=XH
 v20:=Xi
 t22:=Yk
 a22:=Tryz.isAgg148
 z22:=Tryz.sizeOf148
 v22:=YD}
def Tryz.tP:Go.Shelf.Ren:=⟨fun|7=>48|10=>115|n=>n,fun|23=>61|26=>9|3=>143|28=>135|0=>0|27=>134|33=>145|4=>4|n=>n,fun|n=>n⟩
theorem Tryz.GN:Go.Proofs.SlLaysZ.n7 SI Tryz.tP:={
 mixed:=by kernel_rfl
 f7:=⟨Tryz.f48.name,by decide,Tryz.func48.trans (congrArg some (by kernel_rfl))⟩
 f10:=⟨Tryz.f115.name,by decide,Tryz.func115.trans (congrArg some (by kernel_rfl))⟩
 t0:=Vj
 a0:=V0
 z0:=VN
 v0:=Vs
 t4:=Ut
 a4:=Vx
 z4:=Vi
 v4:=UK
 t23:=YC
 a23:=Tryz.isAgg61
 z23:=Tryz.sizeOf61
 v23:=Tryz.zeroValue61
 t26:=UX
 a26:=VH
 z26:=VA
 v26:=U6
 t27:=Tryz.underlying134
 a27:=Tryz.isAgg134
 z27:=Tryz.sizeOf134
 v27:=Tryz.zeroValue134
 t28:=Yl
 a28:=Tryz.isAgg135
 z28:=Tryz.sizeOf135
 v28:=YE
 t33:=Tryz.underlying145
 a33:=Tryz.isAgg145
 z33:=Tryz.sizeOf145
 v33:=Tryz.zeroValue145}
def Tryz.uf:Go.Shelf.Ren:=⟨fun|6=>47|8=>113|9=>114|11=>175|13=>177|12=>176|23=>268|24=>269|14=>259|15=>260|16=>261|17=>262|18=>263|19=>264|20=>265|21=>266|22=>267|25=>337|26=>338|27=>339|28=>340|29=>341|30=>342|31=>382|n=>n,fun|26=>9|28=>135|24=>57|0=>0|3=>3|37=>296|48=>404|50=>91|4=>4|40=>397|39=>396|45=>250|5=>5|9=>9|51=>457|55=>291|57=>487|58=>488|33=>145|n=>n,fun|n=>n⟩
theorem Tryz.Dw:Go.Proofs.SlLaysZ.n6 SI Tryz.uf:={
 mixed:=by kernel_rfl
 f6:=⟨Tryz.f47.name,by decide,Tryz.func47.trans (congrArg some (by kernel_rfl))⟩
 f8:=⟨Tryz.f113.name,by decide,Tryz.func113.trans (congrArg some (by kernel_rfl))⟩
 f11:=⟨Tryz.f175.name,by decide,Tryz.func175.trans (congrArg some (by kernel_rfl))⟩
 t0:=Vj
 a0:=V0
 z0:=VN
 v0:=Vs
 t24:=W7
 a24:=XY
 z24:=XJ
 v24:=Xj
 t26:=UX
 a26:=VH
 z26:=VA
 v26:=U6
 t28:=Yl
 a28:=Tryz.isAgg135
 z28:=Tryz.sizeOf135
 v28:=YE
 i26:=by kernel_rfl}
def Tryz.Dx:Go.Shelf.Ren:=⟨fun|6=>114|8=>177|9=>176|19=>268|20=>269|21=>259|22=>260|23=>261|24=>262|25=>263|26=>264|27=>265|28=>266|29=>267|36=>337|31=>338|32=>339|37=>340|38=>341|39=>342|41=>382|n=>n,fun|27=>57|29=>9|3=>3|32=>296|26=>57|0=>0|44=>404|46=>91|4=>4|36=>397|35=>396|41=>250|5=>5|9=>9|53=>457|57=>291|63=>487|64=>488|n=>n,fun|n=>n⟩
theorem Tryz.H':Go.Proofs.SlLaysM.n6 SI Tryz.Dx:={
 mixed:=by kernel_rfl
 f6:=⟨Tryz.f114.name,by decide,Tryz.func114.trans (congrArg some (by kernel_rfl))⟩
 f8:=Tryz.func177.trans (congrArg some (by kernel_rfl))
 f9:=⟨Tryz.f176.name,by decide,Tryz.func176.trans (congrArg some (by kernel_rfl))⟩
 f19:=Tryz.func268.trans (congrArg some (by kernel_rfl))
 f20:=Tryz.func269.trans (congrArg some (by kernel_rfl))
 f21:=⟨Tryz.f259.name,by decide,Tryz.func259.trans (congrArg some (by kernel_rfl))⟩
 f22:=⟨Tryz.f260.name,by decide,Tryz.func260.trans (congrArg some (by kernel_rfl))⟩
 f23:=⟨Tryz.f261.name,by decide,Tryz.func261.trans (congrArg some (by kernel_rfl))⟩
 f24:=⟨Tryz.f262.name,by decide,Tryz.func262.trans (congrArg some (by kernel_rfl))⟩
 f25:=⟨Tryz.f263.name,by decide,Tryz.func263.trans (congrArg some (by kernel_rfl))⟩
 f26:=⟨Tryz.f264.name,by decide,Tryz.func264.trans (congrArg some (by kernel_rfl))⟩
 f27:=⟨Tryz.f265.name,by decide,Tryz.func265.trans (congrArg some (by kernel_rfl))⟩
 f28:=⟨Tryz.f266.name,by decide,Tryz.func266.trans (congrArg some (by kernel_rfl))⟩
 f29:=⟨Tryz.f267.name,by decide,Tryz.func267.trans (congrArg some (by kernel_rfl))⟩
 f31:=Tryz.func338.trans (congrArg some (by kernel_rfl))
 f32:=Tryz.func339.trans (congrArg some (by kernel_rfl))
 f36:=⟨Tryz.f337.name,by decide,Tryz.func337.trans (congrArg some (by kernel_rfl))⟩
 f37:=⟨Tryz.f340.name,by decide,Tryz.func340.trans (congrArg some (by kernel_rfl))⟩
 f38:=⟨Tryz.f341.name,by decide,Tryz.func341.trans (congrArg some (by kernel_rfl))⟩
 f39:=⟨Tryz.f342.name,by decide,Tryz.func342.trans (congrArg some (by kernel_rfl))⟩
 f41:=⟨Tryz.f382.name,by decide,Tryz.func382.trans (congrArg some (by kernel_rfl))⟩
 t0:=Vj
 a0:=V0
 z0:=VN
 v0:=Vs
 t3:=Vk
 a3:=V2
 z3:=VO
 v3:=Vt
 t4:=Ut
 a4:=Vx
 z4:=Vi
 v4:=UK
 t5:=Wk
 a5:=Yd
 z5:=XX
 v5:=Xq
 t9:=UX
 a9:=VH
 z9:=VA
 v9:=U6
 t26:=W7
 a26:=XY
 z26:=XJ
 v26:=Xj
 t27:=W7
 a27:=XY
 z27:=XJ
 v27:=Xj
 t29:=UX
 a29:=VH
 z29:=VA
 v29:=U6
 t32:=WO
 a32:=XI
 z32:=Xz
 v32:=W6
 t35:=Ym
 a35:=Tryz.isAgg396
 z35:=Tryz.sizeOf396
 v35:=YF
 t36:=Yn
 a36:=Tryz.isAgg397
 z36:=Tryz.sizeOf397
 v36:=YG
 t41:=Yo
 a41:=Tryz.isAgg250
 z41:=Tryz.sizeOf250
 v41:=YH
 t44:=Yp
 a44:=Tryz.isAgg404
 z44:=Tryz.sizeOf404
 v44:=YI
 t46:=YJ
 a46:=Tryz.isAgg91
 z46:=Tryz.sizeOf91
 v46:=Tryz.zeroValue91
 t53:=Yq
 a53:=Tryz.isAgg457
 z53:=Tryz.sizeOf457
 v53:=YK
 t57:=Yr
 a57:=Tryz.isAgg291
 z57:=Tryz.sizeOf291
 v57:=YL
 t63:=Ys
 a63:=Tryz.isAgg487
 z63:=Tryz.sizeOf487
 v63:=YM
 t64:=Yt
 a64:=Tryz.isAgg488
 z64:=Tryz.sizeOf488
 v64:=YN}
def Tryz.JL:Go.Shelf.Ren:=⟨fun|6=>334|15=>177|14=>380|28=>268|29=>269|20=>400|21=>401|22=>402|23=>403|24=>404|25=>405|26=>406|27=>407|46=>412|47=>338|48=>339|49=>413|50=>414|57=>416|n=>n,fun|22=>148|24=>231|25=>456|3=>3|39=>296|0=>0|53=>404|55=>91|4=>4|46=>397|45=>396|50=>250|5=>5|9=>9|66=>457|70=>291|76=>487|77=>488|n=>n,fun|n=>n⟩
theorem Tryz.acB:Go.Proofs.SlLaysF0.n6 SI Tryz.JL:={
 mixed:=by kernel_rfl
 f6:=⟨Tryz.f334.name,by decide,Tryz.func334.trans (congrArg some (by kernel_rfl))⟩
 f14:=⟨Tryz.f380.name,by decide,Tryz.func380.trans (congrArg some (by kernel_rfl))⟩
 f15:=Tryz.func177.trans (congrArg some (by kernel_rfl))
 f20:=⟨Tryz.f400.name,by decide,Tryz.func400.trans (congrArg some (by kernel_rfl))⟩
 f21:=⟨Tryz.f401.name,by decide,Tryz.func401.trans (congrArg some (by kernel_rfl))⟩
 f22:=⟨Tryz.f402.name,by decide,Tryz.func402.trans (congrArg some (by kernel_rfl))⟩
 f23:=⟨Tryz.f403.name,by decide,Tryz.func403.trans (congrArg some (by kernel_rfl))⟩
 f24:=⟨Tryz.f404.name,by decide,Tryz.func404.trans (congrArg some (by kernel_rfl))⟩
 f25:=⟨Tryz.f405.name,by decide,Tryz.func405.trans (congrArg some (by kernel_rfl))⟩
 f26:=⟨Tryz.f406.name,by decide,Tryz.func406.trans (congrArg some (by kernel_rfl))⟩
 f27:=⟨Tryz.f407.name,by decide,Tryz.func407.trans (congrArg some (by kernel_rfl))⟩
 f28:=Tryz.func268.trans (congrArg some (by kernel_rfl))
 f29:=Tryz.func269.trans (congrArg some (by kernel_rfl))
 f46:=⟨Tryz.f412.name,by decide,Tryz.func412.trans (congrArg some (by kernel_rfl))⟩
 f47:=Tryz.func338.trans (congrArg some (by kernel_rfl))
 f48:=Tryz.func339.trans (congrArg some (by kernel_rfl))
 f49:=⟨Tryz.f413.name,by decide,Tryz.func413.trans (congrArg some (by kernel_rfl))⟩
 f50:=⟨Tryz.f414.name,by decide,Tryz.func414.trans (congrArg some (by kernel_rfl))⟩
 f57:=⟨Tryz.f416.name,by decide,Tryz.func416.trans (congrArg some (by kernel_rfl))⟩
 t0:=Vj
 a0:=V0
 z0:=VN
 v0:=Vs
 t3:=Vk
 a3:=V2
 z3:=VO
 v3:=Vt
 t4:=Ut
 a4:=Vx
 z4:=Vi
 v4:=UK
 t5:=Wk
 a5:=Yd
 z5:=XX
 v5:=Xq
 t9:=UX
 a9:=VH
 z9:=VA
 v9:=U6
 t22:=Yk
 a22:=Tryz.isAgg148
 z22:=Tryz.sizeOf148
 v22:=YD
 t25:=Tryz.underlying456
 a25:=Tryz.isAgg456
 z25:=Tryz.sizeOf456
 v25:=Tryz.zeroValue456
 t39:=WO
 a39:=XI
 z39:=Xz
 v39:=W6
 t45:=Ym
 a45:=Tryz.isAgg396
 z45:=Tryz.sizeOf396
 v45:=YF
 t46:=Yn
 a46:=Tryz.isAgg397
 z46:=Tryz.sizeOf397
 v46:=YG
 t50:=Yo
 a50:=Tryz.isAgg250
 z50:=Tryz.sizeOf250
 v50:=YH
 t53:=Yp
 a53:=Tryz.isAgg404
 z53:=Tryz.sizeOf404
 v53:=YI
 t55:=YJ
 a55:=Tryz.isAgg91
 z55:=Tryz.sizeOf91
 v55:=Tryz.zeroValue91
 t66:=Yq
 a66:=Tryz.isAgg457
 z66:=Tryz.sizeOf457
 v66:=YK
 t70:=Yr
 a70:=Tryz.isAgg291
 z70:=Tryz.sizeOf291
 v70:=YL
 t76:=Ys
 a76:=Tryz.isAgg487
 z76:=Tryz.sizeOf487
 v76:=YM
 t77:=Yt
 a77:=Tryz.isAgg488
 z77:=Tryz.sizeOf488
 v77:=YN}
def Tryz.Oz:Go.Shelf.Ren:=⟨fun|5=>336|7=>381|n=>n,fun|22=>3|3=>3|4=>4|n=>n,fun|n=>n⟩
theorem Tryz.cmpI:Go.Proofs.SlLaysC2.n5 SI Tryz.Oz:={
 mixed:=by kernel_rfl
 f5:=⟨Tryz.f336.name,by decide,Tryz.func336.trans (congrArg some (by kernel_rfl))⟩
 f7:=⟨Tryz.f381.name,by decide,Tryz.func381.trans (congrArg some (by kernel_rfl))⟩
 t3:=Vk
 a3:=V2
 z3:=VO
 v3:=Vt
 t4:=Ut
 a4:=Vx
 z4:=Vi
 v4:=UK
 t22:=Vk
 a22:=V2
 z22:=VO
 v22:=Vt}
end Go.Proofs
