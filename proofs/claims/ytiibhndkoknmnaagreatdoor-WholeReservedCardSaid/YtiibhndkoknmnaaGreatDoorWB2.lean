/- The machine and its runs, part 2. -/
import Derived.Lib.Walk
import Derived.Lib.SliceRun
import Derived.Deep.AppendLies
import Derived.OneCell
import Derived.Lib.BufferMore
import Derived.Test.YtiibhndkoknmnaaGreatDoorWB1
set_option linter.unusedVariables false
set_option linter.unusedSimpArgs false
open Go.Proofs.Tryz renaming prog→SI,f301→Ye,underlying58→YP,f137→XP
open Go renaming World→SE,Value→AT
open Array renaming replicate→TS,getElem?_eq_some_iff→SB,getD_eq_getD_getElem?→Tp,getElem?_replicate→V9,size_modify→Yu,size_setIfInBounds→V7,getElem?_setIfInBounds_ne→W9,replicate_succ→S8,replicate_zero→S9
open Nat renaming le_trans→Tz,lt_succ_of_lt→VF,add_zero→Ve,reduceAdd→to,reduceSub→TB,le_refl→IN,zero_add→TU,zero_le→Tq
open Go.World renaming putObj_heap_other→SO,cell?_of_block→Uv,putObj→Uq,cell?→Ts,alloc_heap_new→Tm,size_alloc→TR,frozen?→Wc
open Go.Region renaming ready→Tt
open Go.RowKit.Below renaming heap_setCell→VP,heap_alloc→UG,refl→S0
open List renaming size_toArray→Ta,length_cons→SA,length_nil→Tn,push_toArray→Ti,append_toArray→Tc,nil_append→SJ,cons_append→SK,zip_toArray→Xv,zip_cons_cons→Xe,zip_nil_right→Xf,foldl_toArray'→WX,foldl_cons→WJ,foldl_nil→XO,setIfInBounds_toArray→V5,set_cons_succ→Xg,set_cons_zero→Xh,length_pos_iff→Vn,getElem?_eq_getElem→SH
open Go.CallsIn renaming inRound→Yv
open Go.Builtin renaming append_→Ty
open Prod renaming snd→Vv,fst→UQ
open Go.Lib renaming heap_setCell_same→Wu
namespace Go.Proofs
open Go.RowKit Go.Shelf
set_option maxRecDepth 100000
attribute [local go_sem] Oper.semAt_some
theorem Bb.ad5:(SI.info? 24).map (λi=>(i.zero,i.size,i.bytes))=some (some (.agg #[.int .u8 0,.int .u8 0,.int .u8 0,.int .u8 0,.int .u8 0,.int .u8 0,.int .u8 0,.int .u8 0]),8,8):=by kernel_rfl
theorem Bb.make3(w:SE):(Instr.makeSlice 31 (.int .i64 3) (.int .i64 3)).run SI w=.ok (.slice (some ⟨w.heap.size,0,none⟩) 3 3) (w.alloc (.cells (TS 24 (.int .u8 0)) 24)):=by
 obtain⟨i0,hi,hz0,hz1,hz2⟩:=info_parts Bb.ad5;have:=run_makeSlice (P:=SI) w 31 24 i0 _ Tryz.underlying31 hi hz0 .i64 .i64 3 3 (by decide) (by decide) (by rw[hz1];decide) (by rw[hz2];decide) (by decide);rw[hz1]at this;refine this.trans ?_
 congr 2
 exact congrArg (Obj.cells · 24) (by kernel_rfl)
def Bb.M(R:Nat->Nat->Nat->Int)(j p:Nat):Nat->Nat->Int:=λi=>if i<j then R i 2 else if i=j then R i p else λ_=>0
structure Bb.EI(w:SE)(R:Nat->Nat->Nat->Int)(j p:Nat)(W:SE):Prop where
 out:∃cur,W.heap[w.heap.size]?=some (.cells cur 24)/\cur.size=24
 cells:Bb.Cells w.heap.size 0 3 (Bb.M R j p) W
 box:W.cell? ⟨w.heap.size+1,0,none⟩=some (.slice (some ⟨w.heap.size,0,none⟩) 3 3)
 below:Below w.heap.size w W
 size:w.heap.size+2<=W.heap.size
theorem Bb.EI.kZ{w:SE}{R:Nat->Nat->Nat->Int}{j p:Nat}{A B:SE}(h:Bb.EI w R j p A)(hb:Below (w.heap.size+2) A B):Bb.EI w R j p B:=by obtain⟨⟨cur,h1,h2⟩,h3,h4,h5,h6⟩:=h;exact⟨⟨cur,(hb.block _ (by omega)).trans h1,h2⟩,h3.below hb (by omega),(hb.cell (p:=⟨w.heap.size+1,0,none⟩) (show w.heap.size+1<_ by omega)).trans h4,h5.trans (hb.mono (by omega)),Tz h6 hb.size⟩
theorem Bb.EI.put{w:SE}{R:Nat->Nat->Nat->Int}{j p:Nat}{A:SE}(h:Bb.EI w R j p A){l:Nat}(o:Obj)(hl:w.heap.size+2<=l):Bb.EI w R j p (A.putObj l o):=by
 obtain⟨⟨cur,h1,h2⟩,h3,h4,h5,h6⟩:=h;have hh:∀b,b<w.heap.size+2->(A.putObj l o).heap[b]?=A.heap[b]?:=λb hb=>SO (by omega);refine⟨⟨cur,(hh _ (by omega)).trans h1,h2⟩,λi hi k hk=>(Uv (hh _ (show w.heap.size<_ by omega))).trans (h3 i hi k hk),(Uv (hh _ (show w.heap.size+1<_ by omega))).trans h4,?_,?_⟩
 ·exact h5.trans ⟨by simp[Uq],by simp[Uq],by simp[Uq],by simp[Uq],λb hb=>hh b (by omega)⟩
 ·simpa[Uq]using h6
theorem Bb.afz{R:Nat->Nat->Nat->Int}(hR:∀i k,R i 0 k=0)(j:Nat):Bb.M R (j+1) 0=Bb.M R j 2:=by
 funext i k
 unfold Bb.M;by_cases h1:i<j
 ·simp[h1,VF h1]
 by_cases h2:i=j
 ·subst h2;simp
 ·have h3:¬i<j+1:=by omega
  simp only[h1,h2,h3,if_false];split
  ·exact hR _ _
  ·rfl
theorem St.Ea{W:SE}{a:Addr}{v:AT}(h:W.cell? a=some v):a.block<W.heap.size:=by
 obtain⟨b,o,i⟩:=a;simp only[Ts]at h;by_cases hb:b<W.heap.size
 ·exact hb
 ·rw[Array.getElem?_eq_none (by omega)]at h;simp at h
theorem Bb.Nf{A B:SE}(h:Below A.heap.size A B):KeepsOthers A B:=⟨h.size,λk o hk _=>(h.block k (SB.1 hk).1).trans hk⟩
theorem Bb.kp{A B:SE}{m Bs:Nat}(h:Below A.heap.size A B)(hm:m<=A.heap.size)(hs:Bs<A.heap.size):Bb.Kp m Bs A B:=⟨h.mono hm,h.block _ hs⟩
theorem jN{md:Region.Mode}{ops:Array Oper}{listed:Array Bool}{i:Nat}{o:Oper}(hi:i∈Tt md ops listed)(ho:ops[i]?=some o)(e:Edge)(he:e∈o.after)(hb:Region.binds md e=true):listed.getD e.on false=true:=by obtain⟨_,o',ho',h⟩:=mem_ready.1 hi;rw[ho]at ho';cases ho';exact h e he hb
theorem Cr{listed:Array Bool}{i:Nat}(h:listed.getD i true=false):listed.getD i false=false:=by
 rw[Tp]at h ⊢
 cases h1:listed[i]? with
 |none=>rfl
 |some b=>rw[h1]at h;exact h
theorem MM(n k:Nat):(TS n false).getD k false=false:=by rw[Tp,V9];split<;>rfl
theorem aaU{md:Region.Mode}{ops:Array Oper}{listed:Array Bool}{i:Nat}(hi:i∈Tt md ops listed):(listed.setIfInBounds i true).getD i false=true:=by
 have h:=(mem_ready.1 hi).1;rw[Tp]at h ⊢
 have hl:i<listed.size:=by
  cases h1:listed[i]? with
  |none=>rw[h1]at h;cases h
  |some b=>exact(SB.1 h1).1
 simp[Array.getElem?_setIfInBounds,hl]
def Bb.yz(W:SE)(g q:Nat)(f:Nat->Int):SE:=(((((((W.setCell ⟨g,q,none⟩ (.int .u8 (f 0))).setCell ⟨g,q+1,none⟩ (.int .u8 (f 1))).setCell ⟨g,q+2,none⟩ (.int .u8 (f 2))).setCell ⟨g,q+3,none⟩ (.int .u8 (f 3))).setCell ⟨g,q+4,none⟩ (.int .u8 (f 4))).setCell ⟨g,q+5,none⟩ (.int .u8 (f 5))).setCell ⟨g,q+6,none⟩ (.int .u8 (f 6))).setCell ⟨g,q+7,none⟩ (.int .u8 (f 7))
theorem Bb.DF{W:SE}{g o:Nat}{v:AT}{cur:Array AT}(hg:W.heap[g]?=some (.cells cur 24)):(W.setCell ⟨g,o,none⟩ v).heap[g]?=some (.cells (cur.setIfInBounds o v) 24):=by obtain⟨hlt,hk⟩:=SB.1 hg;show(W.heap.modify g _)[g]?=_;rw[Array.getElem?_eq_getElem (by rw[Yu];exact hlt),Array.getElem_modify_self,hk];rfl
theorem Bb.JP{W:SE}{g q:Nat}{cur:Array AT}(hg:W.heap[g]?=some (.cells cur 24))(hq:q+8<=cur.size)(f:Nat->Int):
  (∃cur',(Bb.yz W g q f).heap[g]?=some (.cells cur' 24)/\cur'.size=cur.size/\(∀k,k<8->cur'[q+k]?=some (.int .u8 (f k)))/\∀i,(i<q\/q+8<=i)->cur'[i]?=cur[i]?)/\
  (∀b,b≠g->(Bb.yz W g q f).heap[b]?=W.heap[b]?)/\(Bb.yz W g q f).heap.size=W.heap.size/\((Bb.yz W g q f).os=W.os/\(Bb.yz W g q f).tape=W.tape/\(Bb.yz W g q f).output=W.output):=by
 unfold Bb.yz;refine⟨⟨_,Bb.DF (Bb.DF (Bb.DF (Bb.DF (Bb.DF (Bb.DF (Bb.DF (Bb.DF hg))))))),by simp only[V7],λk hk=>?_,λi hi=>?_⟩,λb hb=>?_,?_,?_⟩
 ·rcases(by omega:k=0\/k=1\/k=2\/k=3\/k=4\/k=5\/k=6\/k=7)with rfl|rfl|rfl|rfl|rfl|rfl|rfl|rfl
  all_goals (repeat rw[W9 (by omega)])
  all_goals (try rw[Ve])
  all_goals exact Array.getElem?_setIfInBounds_self_of_lt (by(try simp only[V7]);omega)
 ·repeat rw[W9 (by omega)]
 ·have h1:∀(A:SE) (o:Nat) (v:AT),(A.setCell ⟨g,o,none⟩ v).heap[b]?=A.heap[b]?:=λA o v=>VP _ _ _ b hb;simp only[h1]
 ·have h1:∀(A:SE) (o:Nat) (v:AT),(A.setCell ⟨g,o,none⟩ v).heap.size=A.heap.size:=λA o v=>Yu ..;simp only[h1]
 ·have h1:∀(A:SE) (o:Nat) (v:AT),(A.setCell ⟨g,o,none⟩ v).os=A.os:=λA o v=>rfl;have h2:∀(A:SE) (o:Nat) (v:AT),(A.setCell ⟨g,o,none⟩ v).tape=A.tape:=λA o v=>rfl;have h3:∀(A:SE) (o:Nat) (v:AT),(A.setCell ⟨g,o,none⟩ v).output=A.output:=λA o v=>rfl;simp only[h1,h2,h3,and_self]
set_option maxHeartbeats 0 in
theorem Bb.aek(F:Fence)(hd:F.depth=none)(n:Nat)(hn:5<=n)(h62:F.fn 62)(h128:F.fn 128)(h197:F.fn 197)(hro:F.round=none)(b off cap:Nat)(z:Nat->Nat->Int)(R:Nat->Nat->Nat->Int)(ex:Nat->Int)(hR:∀i k,R i 0 k=0)
  (w:SE) (hb:b<w.heap.size) (hc:Bb.Cells b off 2 z w)
  (h130:F.fn 130) (h129:F.fn 129) (aey:∀m W (j:Nat),j<3->Below w.heap.size w W->CallsIn F m SI 130 #[.int .i64 (j:Int)] W λe W'=>e=.returned (.int .u8 (ex j))/\Below W.heap.size W W')
  (aez:∀m W (j p:Nat),j<3->p<2->Below w.heap.size w W->CallsIn F m SI 129 #[Bb.bl (z (2-1-p)),Bb.bl (R j p),.int .u8 (ex j)] W λe W'=>e=.returned (Bb.bl (R j (p+1)))/\Below W.heap.size W W'):
  CallsIn F n SI 62 #[.slice (some ⟨b,off,none⟩) 2 cap] w λe W'=>e=.returned (.tuple #[.slice (some ⟨w.heap.size,0,none⟩) 3 3,.int .i64 0])/\Bb.EI w R 3 0 W':=by
 have hmk:=Bb.make3;have hdd:∀k:Nat,(F.depth.isSome=true->1<=k):=λk h=>by rw[hd]at h;cases h
 refine callsIn_of_wp_marks Tryz.func62 rfl h62 ?_ hro;simp only[Tryz.ntmps62,Ta,SA,Tn,to,TB,S8,S9,Ti,Tc,SJ,SK];gi_wp2;obtain⟨W1,hW1⟩:∃W1,W1=(w.alloc (.cells (TS 24 (.int .u8 0)) 24)).alloc (.cells #[.slice (some ⟨w.heap.size,0,none⟩) 3 3] 31):=⟨_,rfl⟩
 have hE0:Bb.EI w R 0 0 W1:=by
  have g0:W1.heap[w.heap.size]?=some (.cells (TS 24 (.int .u8 0)) 24):=by rw[hW1];exact(UG _ _ _ (by simp)).trans (Tm w _)
  have g1:W1.heap[w.heap.size+1]?=some (.cells #[.slice (some ⟨w.heap.size,0,none⟩) 3 3] 31):=by
   rw[hW1];have:=Tm (w.alloc (.cells (TS 24 (.int .u8 0)) 24)) (.cells #[.slice (some ⟨w.heap.size,0,none⟩) 3 3] 31)
   rwa [TR]at this
  refine⟨⟨_,g0,by simp⟩,λi hi k hk=>?_,by simp[Ts,g1],?_,by rw[hW1];simp⟩
  ·have hz:Bb.M R 0 0 i k=0:=by
    unfold Bb.M;simp only[Nat.not_lt_zero,if_false];split
    ·exact hR _ _
    ·rfl
   rw[hz];have:(TS 24 (Value.int .u8 0))[0+i*8+k]?=some (.int .u8 0):=by rw[V9,if_pos (by omega)]
   simp only[Ts,g0];exact this
  ·rw[hW1];exact((S0 _ w).alloc (IN _) _).alloc (by simp) _
 rw[<-hW1];clear hW1
 refine wpIn_loop (λa' W=>∃(j:Nat) (Ds:List Nat) (u5 u20 u21 u22 u23 u37:AT),a'={tmps:=#[.slice (some ⟨b,off,none⟩) 2 cap,undef,.slice none 0 0,.int .i64 0,.pointer (some ⟨w.heap.size+1,0,none⟩),u5,undef,undef,.slice (some ⟨b,off,none⟩) 2 cap,.int .i64 2,.bool false,.bool false,.slice (some ⟨b,off,none⟩) 2 cap,.int .i64 2,.bool false,.bool false,
   .slice (some ⟨w.heap.size,0,none⟩) 3 3,.slice (some ⟨w.heap.size,0,none⟩) 3 3,.int .i64 3,.int .i64 (j:Int),u20,u21,u22,u23,undef,undef,undef,undef,undef,undef,undef,undef,undef,undef,undef,undef,undef,u37,undef],defers:=Ds.map St.mark}/\
   Ds.Nodup/\(∀D∈Ds,w.heap.size+2<=D/\W.heap[D]?=some (.deferred (some [])))/\Bb.EI w R j 0 W/\j<=3) (λa' _=>(3-intOf (a'.tmps.getD 19 undef)).toNat) ?start ?round
 case start=>exact⟨0,[],undef,undef,undef,undef,undef,undef,rfl,List.nodup_nil,λD hD=>(List.not_mem_nil hD).elim,hE0,by omega⟩
 case round=>
  rintro _ wr ⟨j,Ds,u5,u20,u21,u22,u23,u37,rfl,hnd,hDs,hE,hj⟩;dsimp only;have hbx:=hE.box;by_cases hj3:j<3
  ·have hjc:(j:Int)<3:=by omega
   gi_wp2_with (gi_at_call 128;refine(Bb.abD F (n-1) h128 hro _ _ _ _).mono ?_;rintro e w' ⟨rfl,rfl⟩)
   obtain⟨A1,hA1⟩:∃A1,A1=(wr.alloc (.cells #[.int .i64 (j:Int)] 3)).alloc (.cells #[.slice (some ⟨b,off,none⟩) 2 cap] 31):=⟨_,rfl⟩;have sA:A1.heap.size=wr.heap.size+2:=by rw[hA1];simp
   have bA:Below wr.heap.size wr A1:=by rw[hA1];exact((S0 _ wr).alloc (IN _) _).alloc (by simp) _
   have kj:A1.cell? ⟨wr.heap.size,0,none⟩=some (.int .i64 (j:Int)):=by rw[hA1];exact St.iR (St.ni wr _ _) _
   have ks:A1.cell? ⟨wr.heap.size+1,0,none⟩=some (.slice (some ⟨b,off,none⟩) 2 cap):=by
    rw[hA1];have:=St.ni (wr.alloc (.cells #[.int .i64 (j:Int)] 3)) (.slice (some ⟨b,off,none⟩) 2 cap) 31
    rwa [TR]at this
   have hsz:=hE.size;have hEA:Bb.EI w R j 0 A1:=hE.kZ (bA.mono hsz);have hDA:∀D∈Ds,w.heap.size+2<=D/\A1.heap[D]?=some (.deferred (some [])):=λD hD=>⟨(hDs D hD).1,(bA.block D (SB.1 (hDs D hD).2).1).trans (hDs D hD).2⟩;have hDl:∀D∈Ds,D<wr.heap.size:=λD hD=>(SB.1 (hDs D hD).2).1;rw[<-hA1];have hcA:Bb.Cells b off 2 z A1:=hc.below hEA.below hb;refine qT hro (by omega) (gf:=197) (lb:=#[.pointer (some ⟨wr.heap.size+1,0,none⟩)]) rfl h197 (enters_of Tryz.func197 (by kernel_rfl) rfl) (encs:=λk=>#[Value.int .i64 ((2-1-k:Nat):Int),Bb.bl (z (2-1-k))])
    (Kp:=Bb.Kp w.heap.size (wr.heap.size+1)) (N:=2) (Bb.OW F (n-1) h197 hro (by omega) (wr.heap.size+1) w.heap.size b off 2 cap z (by omega) A1 (by omega) (by omega) ks hb hcA) Bb.Kp.trans ?kb (λ_=>rfl)
    (λp W=>Bb.EI w R j p W/\W.cell? ⟨wr.heap.size,0,none⟩=some (.int .i64 (j:Int))/\(∀D∈Ds,W.heap[D]?=some (.deferred (some [])))/\wr.heap.size+2<=W.heap.size)
    (λp a1 W=>∃Bq,a1={tmps:=#[.slice (some ⟨b,off,none⟩) 2 cap,undef,.slice none 0 0,.int .i64 0,.pointer (some ⟨w.heap.size+1,0,none⟩),.pointer (some ⟨wr.heap.size,0,none⟩),undef,.pointer (some ⟨Bq,0,none⟩),.slice (some ⟨b,off,none⟩) 2 cap,.int .i64 2,.bool false,.bool false,.slice (some ⟨b,off,none⟩) 2 cap,.int .i64 2,.bool false,.bool false,
     .slice (some ⟨w.heap.size,0,none⟩) 3 3,.slice (some ⟨w.heap.size,0,none⟩) 3 3,.int .i64 3,.int .i64 (j:Int),.bool true,.int .i64 (j:Int),.slice (some ⟨b,off,none⟩) 2 cap,.func (.func 197) #[] #[.pointer (some ⟨wr.heap.size+1,0,none⟩)],.int .i64 ((1-p:Nat):Int),Bb.bl (z (1-p)),undef,undef,undef,undef,undef,undef,undef,undef,undef,undef,undef,u37,undef],defers:=[]}/\
     (∀k,k<8->W.cell? ⟨Bq,k,none⟩=some (.int .u8 (z (1-p) k)))/\Bb.EI w R j p W/\W.cell? ⟨wr.heap.size,0,none⟩=some (.int .i64 (j:Int))/\(∀D∈Ds,W.heap[D]?=some (.deferred (some [])))/\wr.heap.size+2<=W.heap.size)
    ?ownI ?ownA ?hid ?start0 ?assign ?body ?done
   case kb=>exact λX l o o' hl ho h1 h2=>⟨belowK_b (w:=A1) (by omega) X l o o' hl ho h1 h2,SO (by omega)⟩
   case ownI=>rintro p X l o o' ⟨h1,h2,h3,h4⟩ hl ho hc;exact⟨h1.put o' (by omega),(Uv (SO (show wr.heap.size≠l by omega))).trans h2,λD hD=>(SO (by have:=hDl D hD;omega)).trans (h3 D hD),by simpa[Uq]using h4⟩
   case ownA=>
    rintro p a1 X l o o' ⟨Bq,ha,hq,h1,h2,h3,h4⟩ hl ho hc;refine⟨Bq,ha,λk hk=>?_,h1.put o' (by omega),(Uv (SO (show wr.heap.size≠l by omega))).trans h2,λD hD=>(SO (by have:=hDl D hD;omega)).trans (h3 D hD),by simpa[Uq]using h4⟩;obtain⟨ob,ho2,hcl⟩:=cells_of_cell (hq k hk);have hne:Bq≠l:=λe=>by subst e;rw[ho]at ho2;cases ho2;rw[hc]at hcl;cases hcl
    exact(Uv (SO hne)).trans (hq k hk)
   case hid=>exact λp X ⟨h1,h2,h3,h4⟩=>⟨h1.kZ ((S0 _ X).drew.mono (by have:=h1.size;omega)),by simpa using h2,h3,h4⟩
   case start0=>intro o1 o2;have bb:Below A1.heap.size A1 ((A1.alloc o1).alloc o2):=((S0 _ A1).alloc (IN _) _).alloc (by simp) _;exact⟨hEA.kZ (bb.mono (by omega)),(bb.cell (p:=⟨wr.heap.size,0,none⟩) (show wr.heap.size<_ by omega)).trans kj,λD hD=>(bb.block D (by have:=hDl D hD;omega)).trans (hDA D hD).2,by have:=bb.size;omega⟩
   case assign=>
    rintro l p X hp ⟨h1,h2,h3,h4⟩;simp only[Xv,Xe,Xf,WX,WJ,XO,V5,Xg,Xh];simp only[Bb.bl];gi_wp2;have bx:Below X.heap.size X (X.alloc (.cells #[.int .u8 (z (1-p) 0),.int .u8 (z (1-p) 1),.int .u8 (z (1-p) 2),.int .u8 (z (1-p) 3),.int .u8 (z (1-p) 4),.int .u8 (z (1-p) 5),.int .u8 (z (1-p) 6),.int .u8 (z (1-p) 7)] 24)):=(S0 _ X).alloc (IN _) _;have hnew:=Tm X (.cells #[.int .u8 (z (1-p) 0),.int .u8 (z (1-p) 1),.int .u8 (z (1-p) 2),.int .u8 (z (1-p) 3),.int .u8 (z (1-p) 4),.int .u8 (z (1-p) 5),.int .u8 (z (1-p) 6),.int .u8 (z (1-p) 7)] 24);refine⟨Bb.Nf bx,Bb.kp bx (by omega) (by omega),X.heap.size,rfl,λk hk=>?_,h1.kZ (bx.mono (by have:=h1.size;omega)),(bx.cell (p:=⟨wr.heap.size,0,none⟩) (show wr.heap.size<_ by omega)).trans h2,λD hD=>(bx.block D (by have:=hDl D hD;omega)).trans (h3 D hD),by simp;omega⟩;simp only[Ts,hnew]
    match k,hk with
    |0,_=>rfl
    |1,_=>rfl
    |2,_=>rfl
    |3,_=>rfl
    |4,_=>rfl
    |5,_=>rfl
    |6,_=>rfl
    |7,_=>rfl
   case body=>
    rintro l p a1 X hp ⟨Bq,rfl,hq,h1,h2,h3,h4⟩;simp only[Bb.bl];gi_wp2;have hp1:p<2:=hp;obtain⟨C,hCd⟩:∃C:SE->Prop,C=λW=>Bb.EI w R j p W/\W.cell? ⟨wr.heap.size,0,none⟩=some (.int .i64 (j:Int))/\(∀D∈Ds,W.heap[D]?=some (.deferred (some [])))/\wr.heap.size+2<=W.heap.size/\(∀k,k<8->W.cell? ⟨Bq,k,none⟩=some (.int .u8 (z (1-p) k)))/\KeepsOthers X W/\Bb.Kp w.heap.size (wr.heap.size+1) X W:=⟨_,rfl⟩;obtain⟨Fin,hFd⟩:∃Fin:SE->Prop,Fin=λW=>KeepsOthers X W/\Bb.Kp w.heap.size (wr.heap.size+1) X W/\Bb.EI w R j (p+1) W/\W.cell? ⟨wr.heap.size,0,none⟩=some (.int .i64 (j:Int))/\(∀D∈Ds,W.heap[D]?=some (.deferred (some [])))/\wr.heap.size+2<=W.heap.size:=⟨_,rfl⟩;have hCb:∀A B,C A->Below A.heap.size A B->C B:=by intro A B hA hAB;rw[hCd]at hA ⊢;obtain⟨g1,g2,g3,g4,g5,g6,g7⟩:=hA;have gs:=g1.size;have gz:=hAB.size;refine⟨g1.kZ (hAB.mono (by omega)),(hAB.cell (p:=⟨wr.heap.size,0,none⟩) (show wr.heap.size<_ by omega)).trans g2,λD hD=>(hAB.block D (by have:=hDl D hD;omega)).trans (g3 D hD),by omega,λk hk=>?_,g6.trans (Bb.Nf hAB),g7.trans (Bb.kp hAB (by omega) (by omega))⟩;exact(hAB.cell (p:=⟨Bq,k,none⟩) (St.Ea (g5 k hk))).trans (g5 k hk)
    have hC0:C X.drew:=hCb _ _ (by rw[hCd];exact⟨h1,h2,h3,h4,hq,KeepsOthers.refl _,Bb.Kp.refl _ _ _⟩) (S0 _ X).drew;have hjj:j*8+8<=24:=by omega
    refine wT (by kernel_rfl:SI.follows .mixedOrders=true) (λlisted a W=>listed.size=12/\∃u26 u27 u28 u29 u30 u31 u32 u33 u34 u35 u36:AT,a={tmps:=#[.slice (some ⟨b,off,none⟩) 2 cap,undef,.slice none 0 0,.int .i64 0,.pointer (some ⟨w.heap.size+1,0,none⟩),.pointer (some ⟨wr.heap.size,0,none⟩),undef,.pointer (some ⟨Bq,0,none⟩),.slice (some ⟨b,off,none⟩) 2 cap,.int .i64 2,.bool false,.bool false,.slice (some ⟨b,off,none⟩) 2 cap,.int .i64 2,.bool false,.bool false,.slice (some ⟨w.heap.size,0,none⟩) 3 3,.slice (some ⟨w.heap.size,0,none⟩) 3 3,.int .i64 3,.int .i64 (j:Int),.bool true,.int .i64 (j:Int),.slice (some ⟨b,off,none⟩) 2 cap,.func (.func 197) #[] #[.pointer (some ⟨wr.heap.size+1,0,none⟩)],.int .i64 ((1-p:Nat):Int),Bb.bl (z (1-p)),u26,u27,u28,u29,u30,u31,u32,u33,u34,u35,u36,u37,undef],defers:=[]}/\((listed.getD 0 false=true->u26=.slice (some ⟨w.heap.size,0,none⟩) 3 3)/\(listed.getD 1 false=true->u27=.int .i64 (j:Int))/\(listed.getD 2 false=true->u28=Bb.bl (z (1-p)))/\(listed.getD 3 false=true->u29=.slice (some ⟨w.heap.size,0,none⟩) 3 3)/\(listed.getD 4 false=true->u30=.int .i64 (j:Int))/\(listed.getD 5 false=true->u31=.pointer (some ⟨w.heap.size,j*8,none⟩))/\(listed.getD 6 false=true->u32=Bb.bl (R j p))/\(listed.getD 7 false=true->u33=.int .i64 (j:Int))/\(listed.getD 8 false=true->u34=.int .u8 (ex j))/\(listed.getD 9 false=true->u35=Bb.bl (R j (p+1)))/\(listed.getD 10 false=true->u36=.pointer (some ⟨w.heap.size,j*8,none⟩)))/\(listed.getD 11 false=false->C W)/\(listed.getD 11 false=true->(∀k,k<11->listed.getD k false=true)/\Fin W)) ?z ?e ?s
    case z=>
     have nr:∀(m k:Nat) (q:Prop),(TS m false).getD k false=true->q:=λm k q h=>by rw[MM]at h;cases h
     refine⟨by simp,?_⟩;refine⟨undef,undef,undef,undef,undef,undef,undef,undef,undef,undef,undef,rfl,⟨nr _ _ _,nr _ _ _,nr _ _ _,nr _ _ _,nr _ _ _,nr _ _ _,nr _ _ _,nr _ _ _,nr _ _ _,nr _ _ _,nr _ _ _⟩,λ_=>hC0,nr _ _ _⟩
    case e=>rintro listed a W ⟨hs,u26,u27,u28,u29,u30,u31,u32,u33,u34,u35,u36,rfl,-,-,hF⟩ hrd;have l0:listed.getD 0 false=true:=jM hrd hs (k:=0) rfl (λe he _=>by simp at he);have l1:listed.getD 1 false=true:=jM hrd hs (k:=1) rfl (λe he _=>by simp at he);have l2:listed.getD 2 false=true:=jM hrd hs (k:=2) rfl (λe he _=>by simp at he);have l3:listed.getD 3 false=true:=jM hrd hs (k:=3) rfl (λe he _=>by simp at he);have l4:listed.getD 4 false=true:=jM hrd hs (k:=4) rfl (λe he _=>by simp at he);have l5:listed.getD 5 false=true:=jM hrd hs (k:=5) rfl (λe he _=>by simp at he;rcases he with rfl|rfl<;>assumption);have l6:listed.getD 6 false=true:=jM hrd hs (k:=6) rfl (λe he _=>by simp at he;rcases he with rfl<;>assumption);have l7:listed.getD 7 false=true:=jM hrd hs (k:=7) rfl (λe he _=>by simp at he);have l8:listed.getD 8 false=true:=jM hrd hs (k:=8) rfl (λe he _=>by simp at he;rcases he with rfl<;>assumption);have l9:listed.getD 9 false=true:=jM hrd hs (k:=9) rfl (λe he _=>by simp at he;rcases he with rfl|rfl|rfl|rfl<;>assumption);have l10:listed.getD 10 false=true:=jM hrd hs (k:=10) rfl (λe he _=>by simp at he;rcases he with rfl|rfl|rfl|rfl|rfl|rfl|rfl|rfl|rfl|rfl|rfl|rfl<;>assumption);have l11:listed.getD 11 false=true:=jM hrd hs (k:=11) rfl (λe he _=>by simp at he;rcases he with rfl|rfl|rfl|rfl|rfl|rfl|rfl|rfl|rfl|rfl|rfl|rfl|rfl<;>assumption);have hf:=(hF l11).2;rw[hFd]at hf;exact⟨rfl,hf⟩
    case s=>
     rintro listed a W i ⟨hs,u26,u27,u28,u29,u30,u31,u32,u33,u34,u35,u36,rfl,⟨f0,f1,f2,f3,f4,f5,f6,f7,f8,f9,f10⟩,hC,hF⟩ hi;have hi12:i<12:=by obtain⟨_,o,ho,_⟩:=mem_ready.1 hi;exact(SB.1 ho).1
     have hnl:=(mem_ready.1 hi).1
     have hC':i<11->C W:=λh=>hC (by
      cases hh:listed.getD 11 false
      ·rfl
      ·have:=(hF hh).1 i h;rw[Cr hnl]at this
       cases this)
     have nf:∀k,i≠k->(listed.setIfInBounds i true).getD k false=true->listed.getD k false=true:=λk hik h=>by rwa [getD_set_ne _ hik]at h
     have no11:i<11->¬(listed.setIfInBounds i true).getD 11 false=true:=λhi' h=>by rw[getD_set_ne _ (by omega)]at h;have:=(hF h).1 i hi';rw[Cr hnl]at this;cases this
     have hss:(listed.setIfInBounds i true).size=12:=by rw[V7];exact hs
     have hcs:i=0\/i=1\/i=2\/i=3\/i=4\/i=5\/i=6\/i=7\/i=8\/i=9\/i=10\/i=11:=by omega
     rcases hcs with rfl|rfl|rfl|rfl|rfl|rfl|rfl|rfl|rfl|rfl|rfl|rfl
     ·
      have hCW:=hC' (by omega);have hCW0:=hCW;rw[hCd]at hCW;obtain⟨g1,g2,g3,g4,g5,g6,g7⟩:=hCW;have gb:=g1.box;refine wpOpIn_step rfl (λK' hK=>?_);go_simp;have hC2:=hCW0;refine hK _ _ ⟨hss,_,_,_,_,_,_,_,_,_,_,_,rfl,⟨λ_=>rfl,f1 ∘ nf 1 (by decide),f2 ∘ nf 2 (by decide),f3 ∘ nf 3 (by decide),f4 ∘ nf 4 (by decide),f5 ∘ nf 5 (by decide),f6 ∘ nf 6 (by decide),f7 ∘ nf 7 (by decide),f8 ∘ nf 8 (by decide),f9 ∘ nf 9 (by decide),f10 ∘ nf 10 (by decide)⟩,λ_=>hC2,λh=>absurd h (no11 (by omega))⟩
     ·
      have hCW:=hC' (by omega);have hCW0:=hCW;rw[hCd]at hCW;obtain⟨g1,g2,g3,g4,g5,g6,g7⟩:=hCW;have gb:=g1.box;refine wpOpIn_step rfl (λK' hK=>?_);go_simp;have hC2:=hCW0;refine hK _ _ ⟨hss,_,_,_,_,_,_,_,_,_,_,_,rfl,⟨f0 ∘ nf 0 (by decide),λ_=>rfl,f2 ∘ nf 2 (by decide),f3 ∘ nf 3 (by decide),f4 ∘ nf 4 (by decide),f5 ∘ nf 5 (by decide),f6 ∘ nf 6 (by decide),f7 ∘ nf 7 (by decide),f8 ∘ nf 8 (by decide),f9 ∘ nf 9 (by decide),f10 ∘ nf 10 (by decide)⟩,λ_=>hC2,λh=>absurd h (no11 (by omega))⟩
     ·
      have hCW:=hC' (by omega);have hCW0:=hCW;rw[hCd]at hCW;obtain⟨g1,g2,g3,g4,g5,g6,g7⟩:=hCW;have gb:=g1.box;have c0:=g5 0 (by omega);have c1:W.cell? ⟨Bq,1,none⟩=some (.int .u8 (z (1-p) 1)):=g5 1 (by omega);have c2:W.cell? ⟨Bq,2,none⟩=some (.int .u8 (z (1-p) 2)):=g5 2 (by omega);have c3:W.cell? ⟨Bq,3,none⟩=some (.int .u8 (z (1-p) 3)):=g5 3 (by omega);have c4:W.cell? ⟨Bq,4,none⟩=some (.int .u8 (z (1-p) 4)):=g5 4 (by omega);have c5:W.cell? ⟨Bq,5,none⟩=some (.int .u8 (z (1-p) 5)):=g5 5 (by omega);have c6:W.cell? ⟨Bq,6,none⟩=some (.int .u8 (z (1-p) 6)):=g5 6 (by omega);have c7:W.cell? ⟨Bq,7,none⟩=some (.int .u8 (z (1-p) 7)):=g5 7 (by omega);refine wpOpIn_step rfl (λK' hK=>?_);go_simp;have hC2:=hCW0;refine hK _ _ ⟨hss,_,_,_,_,_,_,_,_,_,_,_,rfl,⟨f0 ∘ nf 0 (by decide),f1 ∘ nf 1 (by decide),λ_=>rfl,f3 ∘ nf 3 (by decide),f4 ∘ nf 4 (by decide),f5 ∘ nf 5 (by decide),f6 ∘ nf 6 (by decide),f7 ∘ nf 7 (by decide),f8 ∘ nf 8 (by decide),f9 ∘ nf 9 (by decide),f10 ∘ nf 10 (by decide)⟩,λ_=>hC2,λh=>absurd h (no11 (by omega))⟩
     ·
      have hCW:=hC' (by omega);have hCW0:=hCW;rw[hCd]at hCW;obtain⟨g1,g2,g3,g4,g5,g6,g7⟩:=hCW;have gb:=g1.box;refine wpOpIn_step rfl (λK' hK=>?_);go_simp;have hC2:=hCW0;refine hK _ _ ⟨hss,_,_,_,_,_,_,_,_,_,_,_,rfl,⟨f0 ∘ nf 0 (by decide),f1 ∘ nf 1 (by decide),f2 ∘ nf 2 (by decide),λ_=>rfl,f4 ∘ nf 4 (by decide),f5 ∘ nf 5 (by decide),f6 ∘ nf 6 (by decide),f7 ∘ nf 7 (by decide),f8 ∘ nf 8 (by decide),f9 ∘ nf 9 (by decide),f10 ∘ nf 10 (by decide)⟩,λ_=>hC2,λh=>absurd h (no11 (by omega))⟩
     ·
      have hCW:=hC' (by omega);have hCW0:=hCW;rw[hCd]at hCW;obtain⟨g1,g2,g3,g4,g5,g6,g7⟩:=hCW;have gb:=g1.box;refine wpOpIn_step rfl (λK' hK=>?_);go_simp;have hC2:=hCW0;refine hK _ _ ⟨hss,_,_,_,_,_,_,_,_,_,_,_,rfl,⟨f0 ∘ nf 0 (by decide),f1 ∘ nf 1 (by decide),f2 ∘ nf 2 (by decide),f3 ∘ nf 3 (by decide),λ_=>rfl,f5 ∘ nf 5 (by decide),f6 ∘ nf 6 (by decide),f7 ∘ nf 7 (by decide),f8 ∘ nf 8 (by decide),f9 ∘ nf 9 (by decide),f10 ∘ nf 10 (by decide)⟩,λ_=>hC2,λh=>absurd h (no11 (by omega))⟩
     ·
      have hCW:=hC' (by omega);have hCW0:=hCW;rw[hCd]at hCW;obtain⟨g1,g2,g3,g4,g5,g6,g7⟩:=hCW;have gb:=g1.box;have d3:listed.getD 3 false=true:=jN hi rfl {on:=3,ground:=.data} (by simp) rfl;obtain rfl:=f3 d3;have d4:listed.getD 4 false=true:=jN hi rfl {on:=4,ground:=.data} (by simp) rfl;obtain rfl:=f4 d4;refine wpOpIn_step rfl (λK' hK=>?_);go_simp;have hC2:=hCW0;refine hK _ _ ⟨hss,_,_,_,_,_,_,_,_,_,_,_,rfl,⟨f0 ∘ nf 0 (by decide),f1 ∘ nf 1 (by decide),f2 ∘ nf 2 (by decide),λ_=>rfl,λ_=>rfl,λ_=>rfl,f6 ∘ nf 6 (by decide),f7 ∘ nf 7 (by decide),f8 ∘ nf 8 (by decide),f9 ∘ nf 9 (by decide),f10 ∘ nf 10 (by decide)⟩,λ_=>hC2,λh=>absurd h (no11 (by omega))⟩
     ·
      have hCW:=hC' (by omega);have hCW0:=hCW;rw[hCd]at hCW;obtain⟨g1,g2,g3,g4,g5,g6,g7⟩:=hCW;have gb:=g1.box;have d5:listed.getD 5 false=true:=jN hi rfl {on:=5,ground:=.data} (by simp) rfl;obtain rfl:=f5 d5;have hM:∀k,k<8->W.cell? ⟨w.heap.size,j*8+k,none⟩=some (.int .u8 (R j p k)):=λk hk=>by have:=g1.cells j hj3 k hk;rw[TU]at this;simpa[Bb.M]using this
      have c0:=hM 0 (by omega);rw[Ve]at c0;have c1:=hM 1 (by omega);have c2:=hM 2 (by omega);have c3:=hM 3 (by omega);have c4:=hM 4 (by omega);have c5:=hM 5 (by omega);have c6:=hM 6 (by omega);have c7:=hM 7 (by omega);refine wpOpIn_step rfl (λK' hK=>?_);go_simp;have hC2:=hCW0;refine hK _ _ ⟨hss,_,_,_,_,_,_,_,_,_,_,_,rfl,⟨f0 ∘ nf 0 (by decide),f1 ∘ nf 1 (by decide),f2 ∘ nf 2 (by decide),f3 ∘ nf 3 (by decide),f4 ∘ nf 4 (by decide),λ_=>rfl,λ_=>rfl,f7 ∘ nf 7 (by decide),f8 ∘ nf 8 (by decide),f9 ∘ nf 9 (by decide),f10 ∘ nf 10 (by decide)⟩,λ_=>hC2,λh=>absurd h (no11 (by omega))⟩
     ·
      have hCW:=hC' (by omega);have hCW0:=hCW;rw[hCd]at hCW;obtain⟨g1,g2,g3,g4,g5,g6,g7⟩:=hCW;have gb:=g1.box;refine wpOpIn_step rfl (λK' hK=>?_);go_simp;have hC2:=hCW0;refine hK _ _ ⟨hss,_,_,_,_,_,_,_,_,_,_,_,rfl,⟨f0 ∘ nf 0 (by decide),f1 ∘ nf 1 (by decide),f2 ∘ nf 2 (by decide),f3 ∘ nf 3 (by decide),f4 ∘ nf 4 (by decide),f5 ∘ nf 5 (by decide),f6 ∘ nf 6 (by decide),λ_=>rfl,f8 ∘ nf 8 (by decide),f9 ∘ nf 9 (by decide),f10 ∘ nf 10 (by decide)⟩,λ_=>hC2,λh=>absurd h (no11 (by omega))⟩
     ·
      have hCW:=hC' (by omega);have hCW0:=hCW;rw[hCd]at hCW;obtain⟨g1,g2,g3,g4,g5,g6,g7⟩:=hCW;have gb:=g1.box;have d7:listed.getD 7 false=true:=jN hi rfl {on:=7,ground:=.data} (by simp) rfl;obtain rfl:=f7 d7;refine wpOpIn_step rfl (λK' hK=>?_)
      gi_wp2_with (gi_at_call 130;refine(Yv l (aey _ _ j hj3 g1.below)).mono ?_;rintro e W2 ⟨rfl,hbel⟩)
      have hC2:=hCb _ _ hCW0 hbel;refine⟨hss,_,_,_,_,_,_,_,_,_,_,_,rfl,⟨f0 ∘ nf 0 (by decide),f1 ∘ nf 1 (by decide),f2 ∘ nf 2 (by decide),f3 ∘ nf 3 (by decide),f4 ∘ nf 4 (by decide),f5 ∘ nf 5 (by decide),f6 ∘ nf 6 (by decide),λ_=>rfl,λ_=>rfl,f9 ∘ nf 9 (by decide),f10 ∘ nf 10 (by decide)⟩,λ_=>hC2,λh=>absurd h (no11 (by omega))⟩
     ·
      have hCW:=hC' (by omega);have hCW0:=hCW;rw[hCd]at hCW;obtain⟨g1,g2,g3,g4,g5,g6,g7⟩:=hCW;have gb:=g1.box;have d2:listed.getD 2 false=true:=jN hi rfl {on:=2,ground:=.data} (by simp) rfl;obtain rfl:=f2 d2;have d6:listed.getD 6 false=true:=jN hi rfl {on:=6,ground:=.data} (by simp) rfl;obtain rfl:=f6 d6;have d8:listed.getD 8 false=true:=jN hi rfl {on:=8,ground:=.data} (by simp) rfl;obtain rfl:=f8 d8;refine wpOpIn_step rfl (λK' hK=>?_);simp only[Bb.bl]
      gi_wp2_with (gi_at_call 129;refine(Yv l (aez _ _ j p hj3 hp1 g1.below)).mono ?_;rintro e W2 ⟨rfl,hbel⟩)
      have hC2:=hCb _ _ hCW0 hbel;refine⟨hss,_,_,_,_,_,_,_,_,_,_,_,rfl,⟨f0 ∘ nf 0 (by decide),f1 ∘ nf 1 (by decide),λ_=>rfl,f3 ∘ nf 3 (by decide),f4 ∘ nf 4 (by decide),f5 ∘ nf 5 (by decide),λ_=>rfl,f7 ∘ nf 7 (by decide),λ_=>rfl,λ_=>rfl,f10 ∘ nf 10 (by decide)⟩,λ_=>hC2,λh=>absurd h (no11 (by omega))⟩
     ·
      have hCW:=hC' (by omega);have hCW0:=hCW;rw[hCd]at hCW;obtain⟨g1,g2,g3,g4,g5,g6,g7⟩:=hCW;have gb:=g1.box;have d0:listed.getD 0 false=true:=jN hi rfl {on:=0,ground:=.data} (by simp) rfl;obtain rfl:=f0 d0;have d1:listed.getD 1 false=true:=jN hi rfl {on:=1,ground:=.data} (by simp) rfl;obtain rfl:=f1 d1;refine wpOpIn_step rfl (λK' hK=>?_);go_simp;have hC2:=hCW0;refine hK _ _ ⟨hss,_,_,_,_,_,_,_,_,_,_,_,rfl,⟨λ_=>rfl,λ_=>rfl,f2 ∘ nf 2 (by decide),f3 ∘ nf 3 (by decide),f4 ∘ nf 4 (by decide),f5 ∘ nf 5 (by decide),f6 ∘ nf 6 (by decide),f7 ∘ nf 7 (by decide),f8 ∘ nf 8 (by decide),f9 ∘ nf 9 (by decide),λ_=>rfl⟩,λ_=>hC2,λh=>absurd h (no11 (by omega))⟩
     ·have d9:listed.getD 9 false=true:=jN hi rfl {on:=9,ground:=.data} (by simp) rfl;have d10:listed.getD 10 false=true:=jN hi rfl {on:=10,ground:=.data} (by simp) rfl;obtain rfl:=f9 d9;obtain rfl:=f10 d10;have hCW:=hC (Cr hnl);rw[hCd]at hCW;obtain⟨g1,g2,g3,g4,g5,g6,g7⟩:=hCW;obtain⟨cur,hcur,hcs⟩:=g1.out;have hM:∀k,k<8->W.cell? ⟨w.heap.size,j*8+k,none⟩=some (.int .u8 (R j p k)):=λk hk=>by have:=g1.cells j hj3 k hk;rw[TU]at this;simpa[Bb.M]using this
      have hfr:∀o,W.frozen? ⟨w.heap.size,o,none⟩=false:=λo=>by simp[Wc,hcur]
      have c0:=hM 0 (by omega);rw[Ve]at c0;have c1:=hM 1 (by omega);have c2:=hM 2 (by omega);have c3:=hM 3 (by omega);have c4:=hM 4 (by omega);have c5:=hM 5 (by omega);have c6:=hM 6 (by omega);have c7:=hM 7 (by omega);refine wpOpIn_step rfl (λK' hK=>?_);simp only[Bb.bl];go_simp;refine hK _ _ ⟨hss,_,_,_,_,_,_,_,_,_,_,_,rfl,?_,?_,?_⟩
      ·exact⟨f0 ∘ nf 0 (by decide),f1 ∘ nf 1 (by decide),f2 ∘ nf 2 (by decide),f3 ∘ nf 3 (by decide),f4 ∘ nf 4 (by decide),f5 ∘ nf 5 (by decide),f6 ∘ nf 6 (by decide),f7 ∘ nf 7 (by decide),f8 ∘ nf 8 (by decide),f9 ∘ nf 9 (by decide),f10 ∘ nf 10 (by decide)⟩
      ·intro h;rw[aaU hi]at h;cases h
      refine λ_=>⟨λk hk=>?_,?_⟩
      ·rw[getD_set_ne _ (by omega)];rcases(by omega:k=0\/k=1\/k=2\/k=3\/k=4\/k=5\/k=6\/k=7\/k=8\/k=9\/k=10)with rfl|rfl|rfl|rfl|rfl|rfl|rfl|rfl|rfl|rfl|rfl
       all_goals first|assumption|exact jN hi rfl {on:=_,ground:=.phase} (by simp) rfl
      ·have hs8:=Bb.JP (W:=W) hcur (q:=j*8) (by omega) (R j (p+1));show Fin (Bb.yz W w.heap.size (j*8) (R j (p+1)));obtain⟨⟨cur',k1,k2,k3,k4⟩,k5,k6,k7⟩:=hs8;have bb:Below w.heap.size W (Bb.yz W w.heap.size (j*8) (R j (p+1))):=⟨k7.1,k7.2.1,k7.2.2,by rw[k6];exact IN _,λb hb=>k5 b (by omega)⟩;rw[hFd];refine⟨g6.trans ⟨by rw[k6];exact IN _,λk o hk ho=>?_⟩,g7.trans ⟨bb,k5 _ (by omega)⟩,⟨⟨cur',k1,by omega⟩,?_,?_,g1.below.trans bb,by rw[k6];omega⟩,?_,λD hD=>?_,by rw[k6];exact g4⟩
       ·rw[k5 k (λe=>by subst e;rw[hcur]at hk;cases hk;cases ho)];exact hk
       ·intro i hi' k hk;simp only[Ts,k1];rw[TU];by_cases hij:i=j
        ·subst hij;have:=k3 k hk;simpa[Bb.M]using this
        ·have h9:=g1.cells i hi' k hk;simp only[Ts,hcur,TU]at h9;have h10:=k4 (i*8+k) (by omega);have h11:Bb.M R j (p+1) i=Bb.M R j p i:=by unfold Bb.M;simp[hij]
         rw[h11];simpa[h10]using h9
       ·exact(Uv (k5 _ (show w.heap.size+1≠_ by omega))).trans g1.box
       ·exact(Uv (k5 _ (show wr.heap.size≠_ by omega))).trans g2
       ·rw[k5 D (by have:=hDs D hD;omega)];exact g3 D hD
   case done=>
    rintro D X hD ⟨h1,h2,h3,h4⟩ hm;dsimp only;gi_wp2;refine⟨⟨j+1,D::Ds,_,_,_,_,_,_,rfl,List.nodup_cons.2 ⟨λhm=>by have:=hDl D hm;omega,hnd⟩,λE hE=>?_,?_,by omega⟩,?_⟩
    ·rcases List.mem_cons.1 hE with rfl|hE
     ·exact⟨by omega,hm⟩
     ·exact⟨(hDs E hE).1,h3 E hE⟩
    ·obtain⟨g1,g2,g3,g4,g5⟩:=h1;exact⟨g1,by rw[Bb.afz hR];exact g2,g3,g4,g5⟩
    ·simp[intOf];omega
  ·have hj3':j=3:=by omega
   subst hj3';gi_wp2;show LeavesInM F n SI Tryz.f62 _ _ (Ds.map St.mark) .returning wr;exact St.leaves (B:=w.heap.size+2) (λW'=>Bb.EI w R 3 0 W') (λX D hX _ hB=>hX.put _ hB) (λX hX=>⟨_,results_tmp2 rfl _ _ _,rfl,hX⟩) Ds wr hnd hDs hE
attribute [-go_sem] Ty
theorem St.seq0(F:Fence)(hd:F.depth=none)(n:Nat)(h32:F.fn 301)(h33:F.fn 302)(hro:F.round=none)(hCl:St.Cl F):St.Q9 F n 0:=by intro lo dk p a c Bp Bw Bd w hap hpb hlo hdk0 hdk hld hlo0 hlast cp cw cd hsh l J C W hb hJ hC hround h0;have cp':W.cell? ⟨Bp,0,none⟩=some (.slice a p.length c):=(hb.cell (p:=⟨Bp,0,none⟩) (St.iE cp)).trans cp;have cw':W.cell? ⟨Bw,0,none⟩=some (.int .i64 (p.length:Int)):=(hb.cell (p:=⟨Bw,0,none⟩) (St.iE cw)).trans (by simpa using cw);refine St.aaE F hd n h32 h33 hro l Bp Bw Bd a c p W (λW'=>∃xs C',xs.map Vv=St.kQ dk 0 lo p/\J xs C' W') (λm W1 h1=>hCl a p c hap (by omega) m W1 ((hsh.below hb).below h1)) (λv' W2 h2 hr=>?_) cp' cw';obtain⟨fn,tm,asl',bo,hy,hR⟩:=hround [] C (v',p) W2 (hJ C [] W W2 none h0 (St.om h2) (λr e=>by cases e)) (λk hk=>Nat.lt_of_lt_of_le (hC k hk).1 h2.size) h2.size hr (by simp[St.kQ]);refine⟨fn,tm,asl',bo,hy,hR.mono ?_⟩;rintro e W' ⟨rfl,C',hj,_,_⟩;exact⟨rfl,[(v',p)],C',rfl,hj⟩
set_option maxRecDepth 100000 in
set_option maxHeartbeats 0 in
theorem St.seqS(F:Fence)(hd:F.depth=none)(n:Nat)(h32:F.fn 301)(h33:F.fn 302)(h24:F.fn 210)(hro:F.round=none)(hCl:St.Cl F)(k:Nat)(ih:∀n,St.Q9 F n k):St.Q9 F n (k+1):=by
 have hdd:∀k:Nat,(F.depth.isSome=true->1<=k):=λk h=>by rw[hd]at h;cases h
 intro lo dk p a c Bp Bw Bd w hap hpb hlo hdk0 hdk hld hlo0 hlast cp0 cw0 cd0 hsh0 l J C W hb hJ hC hround h0;have cp:W.cell? ⟨Bp,0,none⟩=some (.slice a p.length c):=(hb.cell (p:=⟨Bp,0,none⟩) (St.iE cp0)).trans cp0;have cw:W.cell? ⟨Bw,0,none⟩=some (.int .i64 ((p.length+k+1:Nat):Int)):=(hb.cell (p:=⟨Bw,0,none⟩) (St.iE cw0)).trans cw0;have cd:W.cell? ⟨Bd,0,none⟩=some (.int .i64 dk):=(hb.cell (p:=⟨Bd,0,none⟩) (St.iE cd0)).trans cd0;have hsh:St.ShA a p W:=hsh0.below hb;have sz0:=hb.size;obtain⟨W1,hW1⟩:∃W1,W.alloc (.cells #[.func (.yield l) #[] #[]] 433)=W1:=⟨_,rfl⟩;have b1:Below W.heap.size W W1:=by rw[<-hW1];exact(S0 _ W).alloc (IN _) _
 have sz1:W1.heap.size=W.heap.size+1:=by rw[<-hW1];simp
 have cp1:=(b1.cell (p:=⟨Bp,0,none⟩) (St.iE cp)).trans cp;have cw1:=(b1.cell (p:=⟨Bw,0,none⟩) (St.iE cw)).trans cw;have cd1:=(b1.cell (p:=⟨Bd,0,none⟩) (St.iE cd)).trans cd;have cy1:W1.cell? ⟨W.heap.size,0,none⟩=some (.func (.yield l) #[] #[]):=by rw[<-hW1];exact St.ni _ _ _
 have hsh1:St.ShA a p W1:=hsh.below b1
 have hlt:∀b,St.Own Bp Bw Bd a b->b<W.heap.size:=by
  rintro b (rfl|rfl|rfl|⟨g,e,rfl⟩)
  ·exact St.iE cp
  ·exact St.iE cw
  ·exact St.iE cd
  ·have hp:p≠[]:=λh=>by rw[hap.2 h]at e;cases e
   obtain⟨g',e',hc⟩:=hsh 0 (Vn.2 hp);rw[e]at e';cases e';exact St.iE hc
 have hC2:∀b,C b->b<W.heap.size/\¬St.Own Bp Bw Bd a b:=hC;have hI:St.Inv J W.heap.size l C Bp Bw Bd a p c ((p.length+k+1:Nat):Int) dk [] [] C W1:=⟨hJ C [] W W1 none h0 (St.om b1) (λr e=>by cases e),λb hb'=>⟨by have:=(hC b hb').1;omega,.inl hb'⟩,by omega,λD hD=>(by cases hD),cp1,cw1,cd1,cy1,hsh1⟩;have hne:¬(p.length:Int)=((p.length+k+1:Nat):Int):=by omega
 have fin:∀a' w',(∃xs C' Ds,a'.defers=Ds.map St.mark/\Ds.Nodup/\St.Inv J W.heap.size l C Bp Bw Bd a p c ((p.length+k+1:Nat):Int) dk Ds xs C' w'/\xs.map Vv=St.kQ dk (k+1) lo p)->
   bodyPostM F n SI Ye (λe W'=>(∃v,e=.returned v)/\∃xs C',xs.map Vv=St.kQ dk (k+1) lo p/\J xs C' W') .normal a' w':=by
  rintro a' w' ⟨xs,C',Ds,hds,hnd,hi,hxs⟩;show LeavesInM F n SI Ye a'.tmps _ a'.defers .returning w';rw[hds];refine St.leaves (B:=W.heap.size) (λW'=>J xs C' W') (λX D hX hD hB=>?_) (λX hX=>?_) Ds w' hnd (λD hD=>⟨Nat.le_of_lt (hi.marks D hD).1,(hi.marks D hD).2.2⟩) hi.j
  ·obtain⟨x,hx⟩:=hD;exact(hJ C').putObj _ hX hB hx rfl
  ·exact⟨_,results_none rfl _ _ _,⟨_,rfl⟩,xs,C',hxs,hX⟩
 refine callsIn_of_wp_marks Tryz.func301 rfl h32 ?_ hro;simp only[Tryz.ntmps301,Ta,SA,Tn,to,TB,S8,S9,Ti,Tc,SJ,SK];by_cases hp:p=[]
 ·subst hp;obtain rfl:=hlo0 rfl;gi_wp2;exact St.ID F hd n h32 h33 h24 hro hCl k ih _ dk [] a c Bp Bw Bd l J W.heap.size C hJ hC2 hlt (by simpa using hap) (by simpa using hpb) (by simp) hdk0 hdk hround _ _ _ _ _ _ _ _ _ _ _ _ _ _ _ _ _ _ _ _ _ _ _ _ _ _ _ _ _ _ _ _ _ _ _ _ _ _ _ _ _ _ _ _ _ W1 hI _ fin
 ·have hpl:(0:Int)<(p.length:Int):=by have:=Vn.2 hp;omega
  obtain⟨g,rfl,_⟩:=hsh 0 (Vn.2 hp);have ce1:W1.cell? ⟨g,p.length-1,none⟩=some (.int .i64 (lo-1)):=by obtain⟨g',e,h⟩:=hsh1 (p.length-1) (by have:=Vn.2 hp;omega);cases e;rw[h,hlast hp]
  gi_wp2;exact St.ID F hd n h32 h33 h24 hro hCl k ih _ dk p (some ⟨g,0,none⟩) c Bp Bw Bd l J W.heap.size C hJ hC2 hlt hap (by omega) hlo hdk0 hdk hround _ _ _ _ _ _ _ _ _ _ _ _ _ _ _ _ _ _ _ _ _ _ _ _ _ _ _ _ _ _ _ _ _ _ _ _ _ _ _ _ _ _ _ _ _ W1 hI _ fin
theorem St.Ic(F:Fence)(hd:F.depth=none)(h32:F.fn 301)(h33:F.fn 302)(h24:F.fn 210)(hro:F.round=none)(hCl:St.Cl F):∀k n,St.Q9 F n k
 |0,n=>St.seq0 F hd n h32 h33 hro hCl
 |k+1,n=>St.seqS F hd n h32 h33 h24 hro hCl k (St.Ic F hd h32 h33 h24 hro hCl k)
set_option maxHeartbeats 2000000 in
theorem St.OB(F:Fence)(h33:F.fn 302)(hro:F.round=none):St.Cl F:=by
 intro a p c hap hl m W hsh;have q40:∀(w:SE) (a:Option Addr) (n c n' c':Nat),(binOp .eql 58 (.slice a n c) (.slice none n' c')).run SI w=.ok (.bool a.isNone) w:=λw a n c n' c'=>Lib.run_eql_slice_nil w _ _ a n c n' c' YP
 cases a with
 |none=>have hp:=hap.1 rfl;subst hp;refine callsIn_of_wp Tryz.func302 rfl h33 ?_ hro;simp only[Tryz.ntmps302,Ta,SA,Tn,to,TB,S8,S9,Ti,Tc,SJ,SK];gi_wp2;go_ret;refine⟨_,rfl,⟨⟨by simp,.inl ⟨rfl,rfl⟩⟩,by simp⟩,S0 _ _⟩
 |some ad=>
  have hp:p≠[]:=λe=>by have:=hap.2 e;cases this
  obtain⟨g,e,_⟩:=hsh 0 (Vn.2 hp);injection e with e
  subst e;obtain⟨i0,hi,hz0,hz1,hz2⟩:=info_parts St.acI;obtain⟨v3,W3,hrun,r1,r2,r3⟩:=run_append_own (P:=SI) (W.alloc (.cells #[] 3)) W.heap.size 58 58 3 i0 (.int .i64 0) 1 8 YP hi hz0 hz1 hz2 rfl (by decide) (.slice (some ⟨W.heap.size,0,none⟩) 0 0) 0 []
   (World.ownsRow_made W #[] 0 (IN _) (Tq _) rfl) ⟨g,0,none⟩ p.length c (p.map (Value.int .i64)) (by simp)
   (λj u hj=>by
    have hj':=(List.getElem?_eq_some_iff.1 hj).1;rw[List.length_map]at hj';obtain⟨g',e,h⟩:=hsh j hj';cases e;rw[List.getElem?_map,SH hj']at hj;rw[List.getD_eq_getElem?_getD,SH hj']at h;injection hj with hj
    rw[<-hj,Addr.add_lit,TU]
    exact St.iR h _)
   (λu hu=>by obtain⟨x,_,rfl⟩:=List.mem_map.1 hu;rfl) (by simp only[maxLen];omega) (by omega) (by simp)
  refine callsIn_of_wp Tryz.func302 rfl h33 ?_ hro;simp only[Tryz.ntmps302,Ta,SA,Tn,to,TB,S8,S9,Ti,Tc,SJ,SK];gi_wp2;go_ret;refine⟨v3,rfl,⟨by simpa using r1,?_⟩,?_⟩
  ·rw[r3];simp[hp]
  ·exact((S0 _ W).alloc (IN _) _).grown r2 (by simp) (by intro k hk;simp[Value.ownBlock]at hk;omega)
def St.cnt(d:Int):Nat->Int->Int->Int
 |0,_,n=>n
 |k+1,i,n=>if n*(d-i) / (i+1) > 1099511627776 then n*(d-i) / (i+1)else St.cnt d k (i+1) (n*(d-i) / (i+1))
theorem St.Oy(d:Int)(k:Nat)(i n:Int):St.cnt d (k+1) i n=if n*(d-i) / (i+1) > 1099511627776 then n*(d-i) / (i+1)else St.cnt d k (i+1) (n*(d-i) / (i+1)):=rfl
set_option maxHeartbeats 2000000 in
theorem St.Om(F:Fence)(h23:F.fn 209)(hro:F.round=none)(m:Nat)(d:Int)(k:Nat)(hk:(k:Int)<=d)(hd:d<=60)(W:SE):
  CallsIn F m SI 209 #[.int .i64 d,.int .i64 (k:Int)] W λe W2=>e=.returned (.int .i64 (St.cnt d k 0 1))/\W2=W:=by
 refine callsIn_of_wp Tryz.func209 rfl h23 ?_ hro;simp only[Tryz.ntmps209,Ta,SA,Tn,to,TB,S8,S9,Ti,Tc,SJ,SK];gi_wp2
 gi_loopw [5,8] (λnv iv wr=>∃(i:Nat) (n:Int),iv=.int .i64 (i:Int)/\nv=.int .i64 n/\i<=k/\0<=n/\n<=1099511627776/\St.cnt d k 0 1=St.cnt d (k-i) (i:Int) n/\wr=W) (λ_ iv _=>((k:Int)-intOf iv).toNat)
 case atStart=>exact⟨0,1,rfl,rfl,Tq _,by omega,by omega,rfl,rfl⟩
 case round=>
  obtain⟨i,n,rfl,rfl,hi,hn0,hn1,hc,rfl⟩:=hrel;by_cases hend:i<k
  ·have hi':(i:Int)<(k:Int):=by omega
   have e1:k-i=(k-(i+1))+1:=by omega
   have hdi:0<=d-(i:Int):=by omega
   have hp0:0<=n*(d-(i:Int)):=Int.mul_nonneg hn0 hdi;have hp1:n*(d-(i:Int))<=1099511627776*60:=Int.le_trans (Int.mul_le_mul_of_nonneg_right hn1 hdi) (by omega);have hq:Int.tdiv (n*(d-(i:Int))) ((i:Int)+1)=n*(d-(i:Int)) / ((i:Int)+1):=by rw[Int.tdiv_eq_ediv_of_nonneg hp0]
   have hq0:0<=n*(d-(i:Int)) / ((i:Int)+1):=Int.ediv_nonneg hp0 (by omega);have hq1:n*(d-(i:Int)) / ((i:Int)+1)<=n*(d-(i:Int)):=Int.ediv_le_self _ hp0;rw[e1]at hc;rw[St.Oy]at hc;obtain⟨q,hqq⟩:∃q,q=n*(d-(i:Int)) / ((i:Int)+1):=⟨_,rfl⟩;obtain⟨pr,hpr⟩:∃pr,pr=n*(d-(i:Int)):=⟨_,rfl⟩;rw[<-hqq]at hc hq hq0 hq1;rw[<-hpr]at hp0 hp1 hq hq1;by_cases hbig:q > 1099511627776
   ·rw[if_pos hbig]at hc;gi_wp2;go_ret;refine⟨congrArg Ending.returned (show Value.int .i64 (n*(d-(i:Int)) / ((i:Int)+1))=_ from ?_),rfl⟩;rw[hc,hqq]
   ·rw[if_neg hbig]at hc;gi_wp2;refine⟨⟨i+1,q,by simp,by rw[hqq],by omega,hq0,by omega,?_,trivial⟩,by simp[intOf];omega⟩;rw[hc,hqq];simp
  ·gi_wp2;go_ret;refine⟨congrArg Ending.returned (show Value.int .i64 n=_ from ?_),rfl⟩;rw[hc,show k-i=0 by omega];rfl
theorem St.results11(tmps:Array AT)(W:SE)(b:Nat)(x:Int)(y:AT)(n:Int)(h4:tmps.getD 4 undef=.pointer (some ⟨b,0,none⟩))(h5:tmps.getD 5 undef=.int .i64 n)
  (h0:W.cell? ⟨b,0,none⟩=some (.int .i64 x)) (h1:W.cell? ⟨b,1,none⟩=some y) (hy:∃a n c,y=.slice a n c):(results XP tmps).run SI W=.ok (.tuple #[.agg #[.int .i64 x,y],.int .i64 n]) W:=by
 obtain⟨a,n',c,rfl⟩:=hy;have e:XP.results=#[.cell 4 169,.tmp 5]:=rfl;simp only[results,e,List.mapM_toArray,List.mapM_cons,List.mapM_nil,h4,h5];go_simp
theorem St.jQ{W W':SE}{base:Nat}{e:TypeId}{size:Nat}{v:AT}{n:Nat}{xs:List AT}(h:W.ownsRow base e size v n xs)(hk:∀g cur,W.heap[g]?=some (.cells cur e)->v.ownBlock=some g->W'.heap[g]?=some (.cells cur e)):W'.ownsRow base e size v n xs:=by
 obtain⟨h1,h2⟩:=h;refine⟨h1,?_⟩;rcases h2 with h2|⟨g,cap,cur,hv,hg,hh,r⟩
 ·exact .inl h2
 ·exact .inr ⟨g,cap,cur,hv,hg,hk g cur hh (by rw[hv];rfl),r⟩
theorem St.vA{W:SE}{base:Nat}{e:TypeId}{size:Nat}{v:AT}{n:Nat}{xs:List AT}(h:W.ownsRow base e size v n xs){g:Nat}(hg:v.ownBlock=some g):base<=g/\∃cur,W.heap[g]?=some (.cells cur e):=by
 rcases h.2 with⟨e0,_⟩|⟨g',cap,cur,hv,hb,hh,_⟩
 ·rw[e0]at hg;cases hg
 ·rw[hv]at hg;injection hg with hg
  subst hg;exact⟨hb,cur,hh⟩
structure St.CInv(W0:SE)(B4 B6:Nat)(d:Int)(v:AT)(xs:List (AT×List Int))(C:Nat->Prop)(W:SE):Prop where
 c4:W.heap[B4]?=some (.cells #[.int .i64 0,.slice none 0 0] 169)
 c6:W.heap[B6]?=some (.cells #[.int .i64 d,v] 169)
 own:W.ownsRow W0.heap.size 58 1 v xs.length (xs.map UQ)
 rows:∀x∈xs,St.Row W0.heap.size x.1 x.2 W
 cs:∀b,C b↔b=B6\/v.ownBlock=some b
 below:Below W0.heap.size W0 W
theorem St.CInv.kZ{W0:SE}{B4 B6:Nat}{d:Int}{v:AT}{xs:List (AT×List Int)}{C:Nat->Prop}{W W':SE}(h:St.CInv W0 B4 B6 d v xs C W)(hk:∀(g:Nat) (o:Obj),W.heap[g]?=some o->o.isCells=true->W'.heap[g]?=some o)(hb:Below W0.heap.size W0 W'):St.CInv W0 B4 B6 d v xs C W':=⟨hk _ _ h.c4 rfl,hk _ _ h.c6 rfl,St.jQ h.own λg cur hg _=>hk g _ hg rfl,λx hx=>⟨St.jQ (h.rows x hx).1 λg cur hg _=>hk g _ hg rfl,(h.rows x hx).2⟩,h.cs,hb⟩
theorem St.rO{B:Nat}{W0 W W':SE}{row:Option Nat}(h:Below B W0 W)(hB:B<=W0.heap.size)(hg:W.grownBy W' row)(hr:∀r,row=some r->B<=r):Below B W0 W':=⟨hg.os.trans h.os,hg.tape.trans h.tape,hg.output.trans h.output,Tz h.size hg.size,λk hk=>(hg.block k (by have:=h.size;omega) (λe=>by have:=hr k e.symm;omega)).trans (h.block k hk)⟩
theorem St.CInv.grown{W0:SE}{B4 B6:Nat}{d:Int}{v:AT}{xs:List (AT×List Int)}{C:Nat->Prop}{W W':SE}{row:Option Nat}(h:St.CInv W0 B4 B6 d v xs C W)(hg:W.grownBy W' row)(hr:∀r,row=some r->W0.heap.size<=r/\∃o:Obj,W.heap[r]?=some o/\o.isCells=false):St.CInv W0 B4 B6 d v xs C W':=
 h.kZ (λg o ho hc=>(hg.block g (SB.1 ho).1 (λe=>by
  obtain⟨_,o',ho',hc'⟩:=hr g e.symm;rw[ho]at ho';cases ho';rw[hc]at hc'
  cases hc')).trans ho) (St.rO h.below (IN _) hg λr e=>(hr r e).1)
theorem St.ad6:(SI.info? 58).map (λi=>(i.zero,i.size,i.bytes))=some (some (.slice none 0 0),1,24):=by kernel_rfl
theorem St.CInv.more{W0:SE}{B4 B6:Nat}{d:Int}{v:AT}{xs:List (AT×List Int)}{C:Nat->Prop}{X:SE}(h:St.CInv W0 B4 B6 d v xs C X)(h46:B4≠B6)(hB6:W0.heap.size<=B6)(x:AT×List Int)(hx:St.Row W0.heap.size x.1 x.2 X)(hl:xs.length<=4096)(hone:x.1.oneCell'=true):
  ∃v3 X3,(Ty #[167,167] 167 #[v,.slice (some ⟨X.heap.size,0,none⟩) 1 1]).run SI (X.alloc (.cells #[x.1] 58))=.ok v3 X3/\(∃a n c,v3=.slice a n c)/\X3.cell? ⟨B6,1,none⟩=some v/\X3.frozen? ⟨B6,1,none⟩=false/\
   ∃C',St.CInv W0 B4 B6 d v3 (xs++[x]) C' (X3.setCell ⟨B6,1,none⟩ v3)/\(∀k,C' k->k<(X3.setCell ⟨B6,1,none⟩ v3).heap.size/\(C k\/X.heap.size<=k))/\TurnsC 0 C X (X3.setCell ⟨B6,1,none⟩ v3):=by
 obtain⟨i0,hi,hz0,hz1,hz2⟩:=info_parts St.ad6;have hbase:W0.heap.size<=(X.alloc (.cells #[x.1] 58)).heap.size:=by have:=h.below.size;rw[TR];omega
 have ka:∀(g:Nat) (o:Obj),X.heap[g]?=some o->(X.alloc (.cells #[x.1] 58)).heap[g]?=some o:=λg o ho=>(UG X _ g (SB.1 ho).1).trans ho;obtain⟨g,cap,X3,hrun,r1,r2,r3,r4⟩:=run_append_lies (P:=SI) (X.alloc (.cells #[x.1] 58)) 167 167 W0.heap.size 58 i0 (.slice none 0 0) 1 24 Tryz.underlying167 hi hz0 hz1 hz2 rfl (by decide) v xs.length (xs.map UQ)
  (St.jQ h.own λg cur hg _=>ka g _ hg) ⟨X.heap.size,0,none⟩ 1 1 [x.1] rfl
  (λj u hj=>by
   match j,hj with
   |0,hj=>injection hj with hj;subst hj;exact St.ni X x.1 58) (λu hu=>by simp at hu;subst hu;exact hone) (by decide) (by simp only[maxLen];omega) (by omega) hbase _ rfl
 rw[TR]at r3;have kg:∀(b:Nat) (o:Obj),X.heap[b]?=some o->v.ownBlock≠some b->X3.heap[b]?=some o:=λb o ho hne=>(r2.block b (by rw[TR];exact VF (SB.1 ho).1) (λe=>hne e.symm)).trans (ka b o ho);have t40:∀b,v.ownBlock=some b->∃cur,X.heap[b]?=some (.cells cur 58):=λb hb=>(St.vA h.own hb).2
 have n25:∀{b:Nat} {cur:Array AT} {e:TypeId},e≠58->X.heap[b]?=some (.cells cur e)->v.ownBlock≠some b:=λ{b cur e} he hb h1=>by
  obtain⟨cur',h2⟩:=t40 b h1;rw[h2]at hb;injection hb with hb
  injection hb with _ hb
  exact he hb.symm
 have c6:X3.heap[B6]?=some (.cells #[.int .i64 d,v] 169):=kg _ _ h.c6 (n25 (by decide) h.c6);have hs6:=Wu (i:=1) c6 (.slice (some ⟨g,0,none⟩) (xs.length+1) cap);have ks:∀(b:Nat) (o:Obj),X3.heap[b]?=some o->b≠B6->(X3.setCell ⟨B6,1,none⟩ (.slice (some ⟨g,0,none⟩) (xs.length+1) cap)).heap[b]?=some o:=λb o ho hne=>(VP X3 ⟨B6,1,none⟩ _ b hne).trans ho
 have hg6:g≠B6:=λe=>by
  obtain⟨_,cur,hc⟩:=St.vA r1 (g:=g) rfl;rw[e,c6]at hc;injection hc with hc
  injection hc with _ hc
  exact absurd hc (by decide)
 refine⟨_,X3,hrun,⟨_,_,_,rfl⟩,by simp[Ts,c6],by simp[Wc,c6],λb=>b=B6\/b=g,⟨?_,hs6,?_,?_,λb=>?_,?_⟩,?_,?_⟩
 ·exact ks _ _ (kg _ _ h.c4 (n25 (by decide) h.c4)) h46
 ·have:=ownsRow_setCell_other r1 (a:=⟨B6,1,none⟩) (by simp[Value.ownBlock];exact hg6) (.slice (some ⟨g,0,none⟩) (xs.length+1) cap);simpa using this
 ·intro y hy
  have hr:St.Row W0.heap.size y.1 y.2 X:=by
   rcases List.mem_append.1 hy with hy|hy
   ·exact h.rows y hy
   ·simp at hy;subst hy;exact hx
  refine⟨St.jQ hr.1 λb cur hb _=>ks _ _ (kg _ _ hb (n25 (by decide) hb)) λe=>?_,hr.2⟩;rw[e,h.c6]at hb;injection hb with hb
  injection hb with _ hb
  exact absurd hb (by decide)
 ·simp[Value.ownBlock,eq_comm]
 ·refine Below.setCell (St.rO (h.below.trans (((S0 _ X).alloc (IN _) _).mono h.below.size)) (IN _) r2 λr e=>(St.vA h.own e).1) hB6 _
 ·intro b hb;have hsz:(X3.setCell ⟨B6,1,none⟩ (.slice (some ⟨g,0,none⟩) (xs.length+1) cap)).heap.size=X3.heap.size:=by simp
  rw[hsz];rcases hb with rfl|rfl
  ·exact⟨(SB.1 c6).1,.inl ((h.cs _).2 (.inl rfl))⟩
  ·refine⟨r4,?_⟩;rcases r3 with r3|r3
   ·exact .inl ((h.cs _).2 (.inr r3))
   ·exact .inr (by omega)
 ·refine⟨by have:=r2.size;rw[TR]at this;simp;omega,λb o hb hnc _=>?_⟩;have h1:=λe=>hnc ((h.cs b).2 (.inl e));have h2:=λe=>hnc ((h.cs b).2 (.inr e));exact ks _ _ (kg _ _ hb h2) h1
noncomputable def St.HA:Code:=XP.body.getD .skip
theorem St.Row.one{base:Nat}{v:AT}{p:List Int}{W:SE}(h:St.Row base v p W):v.oneCell'=true:=by rcases h.1.2 with⟨e,_⟩|⟨g,cap,cur,e,_⟩<;>subst e<;>rfl
set_option maxRecDepth 100000 in
set_option maxHeartbeats 0 in
theorem St.Sg(F:Fence)(hd:F.depth=none)(n:Nat)(h24:F.fn 210)(h32:F.fn 301)(h33:F.fn 302)(hro:F.round=none)(hCl:St.Cl F)(d k:Nat)(hd2:d<=60)(hk1:k<=d)(Bp Bw Bd:Nat)(w:SE)
  (cp:w.cell? ⟨Bp,0,none⟩=some (.slice none 0 0)) (cw:w.cell? ⟨Bw,0,none⟩=some (.int .i64 (k:Int))) (cd:w.cell? ⟨Bd,0,none⟩=some (.int .i64 (d:Int)))
  (W0:SE) (B4 B6:Nat) (hInv:St.CInv W0 B4 B6 d (.slice none 0 0) [] (λb=>b=B6) w) (h46:B4≠B6) (hB6:W0.heap.size<=B6) (hown:¬St.Own Bp Bw Bd none B6) (hlen:(St.kQ d k 0 []).length<=4096)
  (t0 t1 t2 t3 t5 t7 t8 t9 t10 t11 t12 t13 t14 t15 t16 t17 t18 t19 t20 t21 t22 t23 t24 t25 t26 t27 t28 t29 t30 t31 t32 t33 t34 t35 t36 t38 t39 t40 t41 t42 t43 t44 t45:AT) (Q:Exit->Act->SE->Prop)
  (hQ:∀w' D v xs C,W0.heap.size<=D->¬C D->w'.heap[D]?=some (.deferred (some []))->St.CInv W0 B4 B6 d v xs C w'->xs.map Vv=St.kQ d k 0 []->Q .normal {tmps:=#[t0,t1,t2,t3,.pointer (some ⟨B4,0,none⟩),t5,.pointer (some ⟨B6,0,none⟩),t7,t8,t9,t10,t11,t12,t13,t14,t15,t16,t17,t18,t19,t20,t21,t22,t23,t24,t25,t26,t27,t28,t29,t30,t31,t32,t33,t34,t35,t36,.func (.func 301) #[] #[.pointer (some ⟨Bp,0,none⟩),.pointer (some ⟨Bw,0,none⟩),.pointer (some ⟨Bd,0,none⟩)],t38,t39,t40,t41,t42,t43,t44,t45],defers:=[St.mark D]} w'):
  (St.sel [true,true,true,true,false,true,true] St.HA).wpIn F n SI (Exit.inBlock 0 Q) {tmps:=#[t0,t1,t2,t3,.pointer (some ⟨B4,0,none⟩),t5,.pointer (some ⟨B6,0,none⟩),t7,t8,t9,t10,t11,t12,t13,t14,t15,t16,t17,t18,t19,t20,t21,t22,t23,t24,t25,t26,t27,t28,t29,t30,t31,t32,t33,t34,t35,t36,.func (.func 301) #[] #[.pointer (some ⟨Bp,0,none⟩),.pointer (some ⟨Bw,0,none⟩),.pointer (some ⟨Bd,0,none⟩)],t38,t39,t40,t41,t42,t43,t44,t45],defers:=[]} w:=by
 have hdd:∀k:Nat,(F.depth.isSome=true->1<=k):=λk h=>by rw[hd]at h;cases h
 obtain⟨cc,hcc⟩:∃cc,cc=St.sel [true,true,true,true,false,true,true] St.HA:=⟨_,rfl⟩;rw[<-hcc];simp only[St.sel,St.HA,XP,Option.getD_some]at hcc;rw[hcc];clear hcc cc;dsimp only at hQ ⊢;have hsz:=hInv.below.size;refine qL (α:=AT×List Int) (β:=List Int) (enc:=UQ) (Seen:=λB x W=>St.Row B x.1 x.2 W) (val:=Vv) (out:=St.kQ d k 0 []) (w0:=w) (D:=St.Own Bp Bw Bd none)
  hro (λh=>absurd h (by simp[hd])) (gf:=301) rfl h32 (λ_ _=>rfl)
  (St.Ic F hd h32 h33 h24 hro hCl k (n-1) 0 d [] none 0 Bp Bw Bd w (by simp) (by simp;omega) (by omega) (by omega) (by omega) (by omega) (by simp) (by simp) cp (by simpa using cw) cd (λj hj=>by simp at hj))
  (S0 _ w) ?hseen
  (λys C X=>∃v,St.CInv W0 B4 B6 d v ys C X) (λC ys X Y row h hg hr=>?own) (λb=>b=B6) ?hc ⟨_,hInv⟩ (λx=>{tmps:=#[t0,t1,t2,t3,.pointer (some ⟨B4,0,none⟩),t5,.pointer (some ⟨B6,0,none⟩),x.1,t8,t9,t10,t11,t12,t13,t14,t15,t16,t17,t18,t19,t20,t21,t22,t23,t24,t25,t26,t27,t28,t29,t30,t31,t32,t33,t34,t35,t36,.func (.func 301) #[] #[.pointer (some ⟨Bp,0,none⟩),.pointer (some ⟨Bw,0,none⟩),.pointer (some ⟨Bd,0,none⟩)],x.1,t39,t40,t41,t42,t43,t44,t45],defers:=[]}) ?assign ?body ?done
 case hc=>rintro b rfl;exact⟨(SB.1 hInv.c6).1,hown⟩
 case own=>obtain⟨v,h⟩:=h;exact⟨v,h.grown hg λr e=>⟨Tz hsz (hr r e).1,(hr r e).2⟩⟩
 case hseen=>intro B x X b o o' hs _ ho hc;exact⟨ownsRow_putObj hs.1 o' ho hc,hs.2⟩
 case assign=>intro l' x X K hK;simp only[Xv,Xe,Xf,WX,WJ,XO,V5,Xg,Xh];gi_wp2;exact hK
 case body=>
  rintro l' ys C1 x X ⟨v,hc⟩ hC1 hsz1 hseen hlen1;dsimp only;obtain⟨xa,xn,xc,hxs⟩:∃a n c,x.1=.slice a n c:=by rcases hseen.1.2 with⟨e,_⟩|⟨g,cap,cur,e,_⟩<;>exact⟨_,_,_,e⟩
  obtain⟨x1,xp⟩:=x;dsimp only at hxs hseen ⊢;subst hxs;obtain⟨v3,X3,hrun,⟨va,vn,vc,rfl⟩,hc3,hf3,C2,hi2,hb2,ht2⟩:=hc.more h46 hB6 (.slice xa xn xc,xp) (hseen.mono (by omega)) (by omega) hseen.one;dsimp only at hrun;have c61:X.cell? ⟨B6,1,none⟩=some v:=by simp[Ts,hc.c6]
  have c61a:(X.alloc (.cells #[.slice xa xn xc] 58)).cell? ⟨B6,1,none⟩=some v:=St.iR c61 _;gi_wp2;exact⟨C2,⟨_,hi2⟩,hb2,ht2.size,λb o hb hnc _=>ht2.same b o hb hnc (.inr (Tq _))⟩
 case done=>rintro D ys C1 X hD hnD hys ⟨v,hc⟩ hDx;dsimp only;exact hQ X D v ys C1 (by omega) hnD hDx hc hys
set_option maxRecDepth 100000 in
set_option maxHeartbeats 0 in
theorem St.EQ(F:Fence)(h11:F.fn 137)(h23:F.fn 209)(h24:F.fn 210)(h32:F.fn 301)(h33:F.fn 302)(hd:F.depth=none)(hro:F.round=none)(m:Nat)(d k:Nat)(h1:2<=d)(h2:d<=60)(h3:2<=k)(h4:k<=d)(hc:St.cnt (d:Int) (min k (d-k)) 0 1<=4096)(hlen:(St.kQ d k 0 []).length<=4096)(W:SE):
  CallsIn F m SI 137 #[.int .i64 (d:Int),.int .i64 (k:Int)] W λe W2=>∃(v:AT) (xs:List (AT×List Int)),e=.returned (.tuple #[.agg #[.int .i64 (d:Int),v],.int .i64 0])/\xs.map Vv=St.kQ d k 0 []/\
   W2.ownsRow W.heap.size 58 1 v xs.length (xs.map UQ)/\(∀x∈xs,St.Row W.heap.size x.1 x.2 W2)/\Below W.heap.size W W2:=by
 have hdd:∀k:Nat,(F.depth.isSome=true->1<=k):=λk h=>by rw[hd]at h;cases h
 have hmin:((min k (d-k):Nat):Int)=min (k:Int) ((d:Int)-(k:Int)):=by omega
 have hcnt:=St.Om F h23 hro (m-1) (d:Int) (min k (d-k)) (by omega) (by omega) (W.alloc (.cells #[.int .i64 0,.slice none 0 0] 169));rw[hmin]at hcnt;refine callsIn_of_wp_marks Tryz.func137 rfl h11 ?_ hro;simp only[Tryz.ntmps137,Ta,SA,Tn,to,TB,S8,S9,Ti,Tc,SJ,SK];gi_wp2;refine hcnt.mono ?_;rintro e W2 ⟨rfl,rfl⟩;gi_wp2;refine(St.Ib F (m-1) h24 hro (.slice none 0 0) (d:Int) (k:Int) rfl _).mono ?_;rintro e W3 ⟨rfl,hW3⟩;obtain⟨Z,hZ⟩:∃Z,Z=(W.alloc (.cells #[.int .i64 0,.slice none 0 0] 169)).alloc (.cells #[.int .i64 (d:Int),.slice none 0 0] 169):=⟨_,rfl⟩;rw[<-hZ]at hW3 ⊢;have szZ:Z.heap.size=W.heap.size+2:=by rw[hZ];simp
 have bZ:Below W.heap.size W Z:=by rw[hZ];exact((S0 _ W).alloc (IN _) _).alloc (by simp) _
 have bW3:Below Z.heap.size Z W3:=by rw[hW3];exact(((S0 _ Z).alloc (IN _) _).alloc (by simp) _).alloc (by simp;omega) _
 have z4:Z.heap[W.heap.size]?=some (.cells #[.int .i64 0,.slice none 0 0] 169):=by rw[hZ];exact(UG _ _ _ (by simp)).trans (Tm W _)
 have z6:Z.heap[W.heap.size+1]?=some (.cells #[.int .i64 (d:Int),.slice none 0 0] 169):=by have:=Tm (W.alloc (.cells #[.int .i64 0,.slice none 0 0] 169)) (.cells #[.int .i64 (d:Int),.slice none 0 0] 169);rw[TR]at this;rw[hZ];exact this
 obtain⟨n1,n2,n3⟩:=St.boxes Z (.slice none 0 0) (.int .i64 (d:Int)) (.int .i64 (k:Int)) 58 3 3;rw[<-hW3]at n1 n2 n3;have hInv:St.CInv W W.heap.size (W.heap.size+1) d (.slice none 0 0) [] (λb=>b=W.heap.size+1) W3:=⟨(bW3.block _ (by omega)).trans z4,(bW3.block _ (by omega)).trans z6,⟨rfl,.inl ⟨rfl,rfl⟩⟩,(λx hx=>by cases hx),(λb=>by simp[Value.ownBlock]),bZ.trans (bW3.mono (by omega))⟩
 have hne:¬St.Own Z.heap.size (Z.heap.size+2) (Z.heap.size+1) none (W.heap.size+1):=by
  rintro(h|h|h|⟨g,e,_⟩)
  ·omega
  ·omega
  ·omega
  ·cases e
 clear hZ hW3 szZ;gi_wp2;refine St.Sg F hd m h24 h32 h33 hro (St.OB F h33 hro) d k h2 h4 _ _ _ W3 n1 n3 n2 W W.heap.size (W.heap.size+1) hInv (by omega) (by omega) hne hlen _ _ _ _ _ _ _ _ _ _ _ _ _ _ _ _ _ _ _ _ _ _ _ _ _ _ _ _ _ _ _ _ _ _ _ _ _ _ _ _ _ _ _ _ ?_;rintro X D v xs C hD hnD hDx hc hxs;dsimp only;have x40:X.cell? ⟨W.heap.size,0,none⟩=some (.int .i64 0):=by simp[Ts,hc.c4]
 have x41:X.cell? ⟨W.heap.size,1,none⟩=some (.slice none 0 0):=by simp[Ts,hc.c4]
 have x60:X.cell? ⟨W.heap.size+1,0,none⟩=some (.int .i64 (d:Int)):=by simp[Ts,hc.c6]
 have x61:X.cell? ⟨W.heap.size+1,1,none⟩=some v:=by simp[Ts,hc.c6]
 have f40:X.frozen? ⟨W.heap.size,0,none⟩=false:=by simp[Wc,hc.c4]
 have f41:X.frozen? ⟨W.heap.size,1,none⟩=false:=by simp[Wc,hc.c4]
 obtain⟨va,vn,vc,rfl⟩:∃a n c,v=.slice a n c:=by rcases hc.own.2 with⟨e,_⟩|⟨g,cap,cur,e,_⟩<;>exact⟨_,_,_,e⟩
 gi_wp2;obtain⟨Y,hY⟩:∃Y,Y=(X.setCell ⟨W.heap.size,0,none⟩ (.int .i64 (d:Int))).setCell ⟨W.heap.size,1,none⟩ (.slice va vn vc):=⟨_,rfl⟩;rw[<-hY];have y4:Y.heap[W.heap.size]?=some (.cells #[.int .i64 (d:Int),.slice va vn vc] 169):=by have h1:=Wu (i:=0) hc.c4 (.int .i64 (d:Int));have h2:=Wu (i:=1) h1 (.slice va vn vc);rw[hY];exact h2
 have ky:∀(b:Nat) (o:Obj),X.heap[b]?=some o->b≠W.heap.size->Y.heap[b]?=some o:=λb o ho hne=>by rw[hY,VP _ ⟨W.heap.size,1,none⟩ _ b hne,VP _ ⟨W.heap.size,0,none⟩ _ b hne];exact ho
 have hD4:D≠W.heap.size:=λe=>by rw[e,hc.c4]at hDx;injection hDx with hDx;cases hDx
 have yD:=ky _ _ hDx hD4
 have kz:∀(b:Nat) (cur:Array AT) (e:TypeId),X.heap[b]?=some (.cells cur e)->e≠169->(Y.putObj D (.deferred none)).heap[b]?=some (.cells cur e):=λb cur e ho he=>by
  have h1:b≠W.heap.size:=λh=>by rw[h,hc.c4]at ho;injection ho with ho;injection ho with _ ho;exact he ho.symm
  have h2:b≠D:=λh=>by rw[h,hDx]at ho;injection ho with ho;cases ho
  exact(SO h2).trans (ky _ _ ho h1)
 have z4':(Y.putObj D (.deferred none)).heap[W.heap.size]?=some (.cells #[.int .i64 (d:Int),.slice va vn vc] 169):=(SO (Ne.symm hD4)).trans y4;refine⟨by simp,.inl ⟨D,Y.putObj D (.deferred none),rfl,run_takeDeferred yD,?_⟩⟩;refine⟨_,St.results11 _ _ W.heap.size d (.slice va vn vc) 0 rfl rfl (by simp[Ts,z4']) (by simp[Ts,z4']) ⟨_,_,_,rfl⟩,.slice va vn vc,xs,rfl,hxs,?_,?_,?_⟩
 ·exact St.jQ hc.own λg cur hg _=>kz g cur 58 hg (by decide)
 ·exact λx hx=>⟨St.jQ (hc.rows x hx).1 λg cur hg _=>kz g cur 3 hg (by decide),(hc.rows x hx).2⟩
 ·have b1:Below W.heap.size W Y:=by rw[hY];exact(hc.below.setCell (p:=⟨W.heap.size,0,none⟩) (IN _) _).setCell (p:=⟨W.heap.size,1,none⟩) (IN _) _
  exact St.rO b1 (IN _) (grownBy_putObj' Y D _) λr e=>by cases e;exact hD
end Go.Proofs
