/- The machine and its runs, part 4. -/
import Derived.Laws.BytesString
import Derived.Test.YtiibhndkoknmnaaGreatDoorB3
set_option linter.unusedVariables false
set_option linter.unusedSimpArgs false
open Go renaming Program→SZ,Value→AT,Operand→Uz
open Go.Sem renaming run_bind→SU,run_pure→Uy
open Array renaming range→VE,ext'→US,isEmpty→XM,getElem?_setIfInBounds→Xl
open List renaming replicate→U2,ext_getElem?→Vl,getElem?_append_left→TA,getElem?_append_right→UL,getElem?_eq_none→Wz,map_nil→Xx,all_eq_true→Tv,getElem?_eq_getElem→SH,length→U9,eq_of_mem_replicate→XE,getElem?_map→To,mem_filter→TY
open Bool renaming and_eq_true→No,not_eq_true'→UU
open Int renaming ofNat_eq_natCast→VI
open Nat renaming lor→OF,beq→SF,eq_of_beq_eq_true→SG,le_refl→IN,ble→Tj,mul→Vu,blt→Te,le_of_ble_eq_true→Uo,add→U8
open Go.Builtin renaming len_→V8,lenOf→Xs
open Go.Region renaming binds→Ud
open Go.Am.AMem renaming put→If
namespace Go.Am
open Go Go.RowKit
section
variable{μ:Type}[AMem μ]{P:SZ}{ρ:Ren}{V:Nat->Option Blk}{w:World}{B:Nat}
omit [AMem μ] in
theorem iJ{m m':μ}{n n' r wm:Nat}{x:Option AT}{v:AT}(h:iK m n x=.ok v m' n' r wm):x=some v/\m'=m/\n'=n/\r=0/\wm=0:=by
 unfold iK at h;split at h
 ·injection h with e1 e2 e3 e4 e5;subst e1 e2;subst e3 e4 e5;exact⟨rfl,rfl,rfl,rfl,rfl⟩
 ·cases h
omit [AMem μ] in
theorem xf{m m':μ}{n n' r wm b:Nat}{x:Option AT}{v:AT}(h:py m n b x=.ok v m' n' r wm):x=some v/\m'=m/\n'=n/\r=bit b/\wm=0:=by
 unfold py at h;split at h
 ·injection h with e1 e2 e3 e4 e5;subst e1 e2;subst e3 e4 e5;exact⟨rfl,rfl,rfl,rfl,rfl⟩
 ·cases h
def lM(P:SZ)(ρ:Ren)(V:Nat->Option Blk)(w:World)(B n:Nat)(m':μ)(n' wm:Nat)(v:AT)(s:Sem Next):Prop:=∃nx w' ρ',s.run P w=.ok nx w'/\NRel ρ' v nx/\Post ρ V w B n m' n' wm ρ' w'
theorem lM.pure{m:μ}{n:Nat}{v v':AT}{s:Sem AT}(hm:MRel ρ V w B)(hr:s.run P w=.ok v' w)(hv:VRel ρ v v'):lM P ρ V w B n m n 0 v (do Pure.pure (.value (<-s))):=⟨.value v',w,ρ,by rw[SU,hr];rfl,.inl ⟨v',rfl,hv⟩,Post.same hm n m⟩
theorem lM.val{m':μ}{n n' wm:Nat}{v v':AT}{w':World}{ρ':Ren}{s:Sem AT}(hr:s.run P w=.ok v' w')(hv:VRel ρ' v v')(hp:Post ρ V w B n m' n' wm ρ' w'):lM P ρ V w B n m' n' wm v (do Pure.pure (.value (<-s))):=⟨.value v',w',ρ',by rw[SU,hr];rfl,.inl ⟨v',rfl,hv⟩,hp⟩
theorem Dh{z:Array AT}{sz n:Nat}(hz:z.size=sz)(h0:sz≠0):((VE (n*sz)).map (λi=>z[i % z.size]!)).toList=(U2 n z.toList).flatten:=by
 apply Vl;intro i;have hsum:∀n:Nat,((U2 n z.toList).flatten).length=n*sz:=by intro n;rw[List.length_flatten];simp[hz]
 have hget:∀(n i:Nat),i<n*sz->((U2 n z.toList).flatten)[i]?=z[i % sz]?:=by
  intro n
  induction n with
  |zero=>intro i hi;simp at hi
  |succ n ih=>
   intro i hi;rw[List.replicate_succ,List.flatten_cons];by_cases h:i<sz
   ·rw[TA (by simpa[hz]using h),Nat.mod_eq_of_lt h];simp
   ·rw[UL (by simp[hz];omega)];have e:z.toList.length=sz:=by simpa using hz
    rw[e,ih (i-sz) (by rw[Nat.succ_mul]at hi;omega),<-Nat.mod_eq_sub_mod (by omega)]
 by_cases hi:i<n*sz
 ·rw[hget n i hi];have hlt:i % sz<z.size:=by rw[hz];exact Nat.mod_lt _ (by omega)
  subst hz;simp only[Array.getElem?_toList,Array.getElem?_map,Array.getElem?_range,hi,if_true,Option.map_some];rw[getElem!_pos z _ hlt,getElem?_pos z _ hlt]
 ·rw[Wz (by simp;omega),Wz (by rw[hsum];omega)]
omit [AMem μ] in
theorem run_places(fs:Array Field)(hall:fs.toList.all (λf=>(P.info? f.type).isSome)=true):(fs.mapM (m:=Sem) λf=>Prod.mk f.offset <$> sizeOf f.type).run P w=.ok (places P fs).toArray w:=by
 have key:∀l:List Field,l.all (λf=>(P.info? f.type).isSome)=true->(l.mapM (m:=Sem) λf=>Prod.mk f.offset <$> sizeOf f.type).run P w=.ok (l.map λf=>(f.offset,((P.info? f.type).map (·.size)).getD 0)) w:=by
  intro l
  induction l with
  |nil=>intro _;rfl
  |cons f l ih=>intro hl;simp only[List.all_cons,No]at hl;obtain⟨i,hi⟩:=Option.isSome_iff_exists.1 hl.1;simp only[List.mapM_cons,SU,Sem.run_map,run_sizeOf hi,Result.andThen_ok,ih hl.2,Uy,List.map_cons,hi,Option.map_some,Option.getD_some]
 have h:=key fs.toList hall;rw[Array.mapM_eq_mapM_toList];simp only[Sem.run_map,h,Result.andThen_ok];rfl
omit [AMem μ] in
theorem CK{t:Nat}{ti:TypeInfo}{zv:AT}{fs:Array Field}{ps:Array (Nat×Uz)}{d':Array AT}{a:Act}(hti:P.info? t=some ti)(hzv:ti.zero=some zv)(hfs:P.underlying t=some (.struct fs))
  (hall:fs.toList.all (λf=>(P.info? f.type).isSome)=true) (hd:Instr.fill (λi=>(places P fs)[i]?) zv.cells (ps.toList.map λp=>(p.1,a.eval p.2))=some d'):
  (Instr.build t (ps.map λ(i,x)=>(i,a.eval x))).run P w=.ok (.agg d') w:=by
 have e1:(λi:Nat=>(places P fs).toArray[i]?)=λi=>(places P fs)[i]?:=by funext i;simp
 have e2:(ps.map λ(i,x)=>(i,a.eval x)).toList=ps.toList.map λp=>(p.1,a.eval p.2):=by simp
 have hp:=run_places (P:=P) (w:=w) fs hall;unfold Instr.build;simp only[SU,kJ hti hzv,run_underlying hfs,Result.andThen_ok,bind_pure_comp,hp,e1,e2,hd,Uy]
omit [AMem μ] in
theorem Ff{t k el:Nat}{ti ie:TypeInfo}{zv:AT}{ps:Array (Nat×Uz)}{d':Array AT}{a:Act}(hti:P.info? t=some ti)(hzv:ti.zero=some zv)(hel:P.underlying t=some (.array k el))(hie:P.info? el=some ie)
  (hd:Instr.fill (λi=>some (i*ie.size,ie.size)) zv.cells (ps.toList.map λp=>(p.1,a.eval p.2))=some d'):
  (Instr.build t (ps.map λ(i,x)=>(i,a.eval x))).run P w=.ok (.agg d') w:=by
 have e2:(ps.map λ(i,x)=>(i,a.eval x)).toList=ps.toList.map λp=>(p.1,a.eval p.2):=by simp
 unfold Instr.build;simp only[SU,kJ hti hzv,run_underlying hel,Result.andThen_ok,run_sizeOf hie,e2,hd,Uy]
omit [AMem μ] in
theorem yH{t el len sz:Nat}{ti:TypeInfo}{zv:AT}{ps:Array (Nat×Uz)}{d':Array AT}{a:Act}(hel:P.underlying t=some (.slice el))(hti:P.info? el=some ti)(hzv:ti.zero=some zv)(hts:ti.size=sz)(hle:len*sz<=16777216)
  (hd:Instr.fill (λi=>some (i*sz,sz)) ((VE (len*sz)).map (λi=>zv.cells[i % zv.cells.size]!)) (ps.toList.map λp=>(p.1,a.eval p.2))=some d'):
  (Instr.buildSlice t len (ps.map λ(i,x)=>(i,a.eval x))).run P w=.ok (.slice (some ⟨w.heap.size,0,none⟩) len len) (w.alloc (.cells d' el)):=by
 have e2:(ps.map λ(i,x)=>(i,a.eval x)).toList=ps.toList.map λp=>(p.1,a.eval p.2):=by simp
 subst hts;have hno:¬(len*ti.size > 2 ^ 24):=by omega
 unfold Instr.buildSlice;simp only[SU,run_underlying hel,Result.andThen_ok,run_sizeOf hti];rw[if_neg hno];by_cases hl0:len*ti.size=0
 ·rw[hl0]at hd;have r0:VE 0=#[]:=rfl;simp only[r0,List.map_toArray,Xx]at hd;simp only[hl0,if_true,Uy,SU,Result.andThen_ok,r0,List.map_toArray,Xx,e2,hd,newRow];rfl
 ·simp only[if_neg hl0,SU,kJ hti hzv,Result.andThen_ok,Uy,e2,hd,newRow];rfl
omit [AMem μ] in
theorem yF{t el sz l c:Nat}{ti:TypeInfo}{zv:AT}{k k':IntKind}(hel:P.underlying t=some (.slice el))(hti:P.info? el=some ti)(hzv:ti.zero=some zv)(hts:ti.size=sz)(hlc:l<=c)(hb:c*ti.bytes<=281474976710656)(hc:c<=1099511627776)
  (hz0:sz≠0) (hzs:zv.cells.size=sz):
  (Instr.makeSlice t (.int k (Int.ofNat l)) (.int k' (Int.ofNat c))).run P w=.ok (.slice (some ⟨w.heap.size,0,none⟩) l c) (w.alloc (.cells ((U2 c zv.cells.toList).flatten).toArray el)):=by
 have e1:IntKind.i64.wrap (Int.ofNat l)=(l:Int):=oJ (by simp only[VI];omega) (by simp only[VI];omega);have e2:IntKind.i64.wrap (Int.ofNat c)=(c:Int):=oJ (by simp only[VI];omega) (by simp only[VI];omega);have h1:((ti.bytes:Int)*(c:Int)<=281474976710656):=by rw[<-Int.natCast_mul,Nat.mul_comm];omega
 have h2:¬((c:Int)<0):=by omega
 have h3:¬((l:Int)<0):=by omega
 have h4:¬((c:Int)<(l:Int)):=by omega
 have h5:¬(281474976710656<(ti.bytes:Int)*(c:Int)):=by omega
 unfold Instr.makeSlice;simp only[SU,run_underlying hel,Result.andThen_ok,asInt,asIntOf,Uy,typeInfo,run_program,hti,e1,e2];have hcond:(((decide ((c:Int)<0) || decide ((ti.bytes:Int)*(c:Int) > 2 ^ 48)) || decide ((l:Int)<0) || decide ((l:Int) > (c:Int)))=true)=False:=by simp[h3];omega
 simp only[hcond,if_false,SU,run_askRoom,Result.andThen_ok,Int.toNat_natCast];by_cases hc0:c*ti.size=0
 ·have hcz:c=0:=by rcases Nat.mul_eq_zero.1 hc0 with h|h;exact h;rw[hts]at h;exact absurd h hz0
  subst hcz;have r0:VE 0=#[]:=rfl;simp[run_sizeOf hti,newRow,r0]
 ·simp only[run_sizeOf hti,Result.andThen_ok,if_neg hc0,SU,kJ hti hzv,Uy,newRow];have e3:(VE (c*ti.size)).map (λx=>zv.cells[x % zv.cells.size]!)=((U2 c zv.cells.toList).flatten).toArray:=by apply US;rw[hts,Dh hzs hz0]
  rw[e3];rfl
theorem yq{dst:Option Tmp}{t ty:Nat}{x:Uz}{lo hi:Option Uz}{a:Act}{pos:String}{after:Array Edge}{guard:Option (Nat×Bool)}{m m':μ}{n n' r wm:Nat}{v xv:AT}{la lb:Option Nat}(hm:MRel ρ V w B)
  (ht:(match P.underlying t with|some .string=>true|_=>false)=true) (hx:VRel ρ xv (a.eval x))
  (hlo:(la=some 0/\lo=none)\/∃l u,la=iB u/\lo=some l/\VRel ρ u (a.eval l)) (hhi:(lb=My xv/\hi=none)\/∃l u,lb=iB u/\hi=some l/\VRel ρ u (a.eval l))
  (h:iK m n (Dt la lb xv)=.ok v m' n' r wm):lM P ρ V w B n m' n' wm v (execOp a.eval ⟨dst,.slice t x lo hi none,ty,pos,after,guard⟩):=by
 have h0:=iJ h;clear h;obtain⟨h,rfl,rfl,rfl,rfl⟩:=h0
 have hu:P.underlying t=some .string:=by
  split at ht
  ·assumption
  ·cases ht
 unfold Dt at h;split at h
 ·rename_i s;have e1:=hx.gQ rfl;split at h
  ·rename_i _ _ c d
   have hlo:(lo.map a.eval=none/\c=0)\/∃k,lo.map a.eval=some (.int k (Int.ofNat c)):=by
    rcases hlo with⟨h1,rfl⟩|⟨l,u,h1,rfl,h3⟩
    ·injection h1 with h1;exact .inl ⟨rfl,h1⟩
    ·obtain⟨k,hk⟩:=kX h3 h1.symm;exact .inr ⟨k,by rw[Option.map_some,hk]⟩
   have hhi:(hi.map a.eval=none/\d=s.size)\/∃k,hi.map a.eval=some (.int k (Int.ofNat d)):=by
    rcases hhi with⟨h1,rfl⟩|⟨l,u,h1,rfl,h3⟩
    ·injection h1 with h1;exact .inl ⟨rfl,h1⟩
    ·obtain⟨k,hk⟩:=kX h3 h1.symm;exact .inr ⟨k,by rw[Option.map_some,hk]⟩
   obtain⟨hr,hf⟩:=FT (w:=w) hu h hlo hhi;rw[<-e1]at hr;have hr:(Instr.sliceAt t (a.eval x) (lo.map a.eval) (hi.map a.eval) none).run P w=.ok v w:=by unfold Instr.sliceAt;simp only[SU,run_underlying hu,Result.andThen_ok];exact hr
   exact lM.pure hm hr (.flat hf)
  ·cases h
 ·cases h
theorem yh:∀{l:List AT} {zs:List Int},Ax l=some zs->l=zs.map (Value.int .u8)
 |[],zs,h=>by injection h with h;subst h;rfl
 |v::l,zs,h=>by
  cases v with
  |int k z=>
   cases k with
   |u8=>
    unfold Ax at h;split at h
    ·rename_i ys hy;injection h with h
     subst h;rw[yh hy];rfl
    ·cases h
   |_=>cases h
  |_=>cases h
theorem Ry(zs:List Int):(zs.map (Value.int .u8)).all flat=true:=by rw[List.all_map];exact Tv.2 λ_ _=>rfl
theorem gY.uE{ρ:Ren}{l l':List AT}(h:gY ρ l l')(hf:l.all flat=true):l'=l:=by
 apply Vl;intro i
 cases ha:l[i]? with
 |none=>have hl:=h.1;rw[List.getElem?_eq_none_iff]at ha ⊢;omega
 |some x=>
  have hi:i<l'.length:=by rw[<-h.1];exact(List.getElem?_eq_some_iff.1 ha).1
  have hy:l'[i]?=some l'[i]:=SH hi;have:=(h.2 i _ _ ha hy).gQ (Tv.1 hf x (List.mem_of_getElem? ha));rw[hy,this]
set_option maxHeartbeats 1000000 in
theorem Dp{t kt el:Nat}{a:Act}{m m':μ}{n n' r wm:Nat}{v xm km ym xv kv yv:AT}(hel:P.underlying t=some (.map kt el))(hm:MRel ρ V w B)(hag:iX V m n (OF r wm))(hxr:VRel ρ xm xv)(hkr:VRel ρ km kv)(hyr:VRel ρ ym yv)
  (h:lu P (.upd kt) [xm,km,ym] m n=.ok v m' n' r wm):∃w' ρ',(Instr.mapUpdate t xv kv yv).run P w=.ok () w'/\v=undef/\Post ρ V w B n m' n' wm ρ' w':=by
 replace h:cond (gy km) (match xm with
  | .map (some b)=>JA P kt m n b km ym (jc m n b)
  |_=>.no) .no=.ok v m' n' r wm:=h
 cases hf:gy km
 ·rw[hf,cond_false]at h;cases h
 rw[hf,cond_true]at h;rw[hkr.qy hf];split at h
 ·rename_i b;unfold JA at h;split at h
  ·rename_i es hg;unfold Ai at h;split at h
   ·rename_i es1 he1;injection h with e1 e2 e3 e4 e5;subst e1 e2;subst e3 e4 e5
    cases hk:j0 P false kt km (es.map (·.1))with
    |none=>rw[hk]at he1;cases he1
    |some rr=>
     rw[hk]at he1
     cases hxr with
     |flat hfl=>simp[flat]at hfl
     |map hp=>obtain⟨hV,hB⟩:=rB hm hag (by rw[gv,gx];simp) hg hp;obtain⟨w',hrun,hb',hother,hos,htape,hout,hsize⟩:=Jz hel hB hk hyr he1;exact⟨w',ρ,hrun,rfl,Post.LO hm (AMem.get_lim _ _ _ (gW hg).2) hp hV rfl rfl hB.1 hb' hother hos htape hout hsize⟩
   ·cases h
  ·cases h
 ·cases h
theorem FU{Γ:Ctx}{e:List AT}{a:Act}{m m':μ}{n n' r wm:Nat}{v:AT}{rec:Nat->List AT->μ->Nat->OR μ}{o:Oper}{x:AOp}
  (hnc:(∀f args,x≠.call f args)/\(∀y args,x≠.callv y args)) (hchk:jI P Γ o.op x=true) (he:gZ ρ Γ e a.tmps) (h:gV P rec e m n x=.ok v m' n' r wm)
  (hm:MRel ρ V w B) (hag:iX V m n (OF r wm)) (hfree:lN ρ n):lM P ρ V w B n m' n' wm v (execOp a.eval o):=by
 obtain⟨dst,op,ty,pos,after,guard⟩:=o;simp only at hchk;unfold jI at hchk;split at hchk
 ·rename_i x y;replace h:OR.ok (ev e y) m n 0 0=.ok v m' n' r wm:=h;injection h with e1 e2 e3 e4 e5;subst e1 e2;subst e3 e4 e5
  exact⟨_,w,ρ,rfl,.inl ⟨_,rfl,gB he hchk⟩,Post.same hm n m⟩
 ·rename_i x y;replace h:OR.ok (ev e y) m n 0 0=.ok v m' n' r wm:=h;injection h with e1 e2 e3 e4 e5;subst e1 e2;subst e3 e4 e5
  exact⟨_,w,ρ,rfl,.inl ⟨_,rfl,gB he hchk⟩,Post.same hm n m⟩
 ·rename_i c a1 b c' a' b';replace h:iK m n (DR (ev e a') (ev e b') (ev e c'))=.ok v m' n' r wm:=h;have h0:=iJ h;clear h;obtain⟨h,rfl,rfl,rfl,rfl⟩:=h0;simp only[No]at hchk;have hc:=gB he hchk.1.1;unfold DR at h;split at h
  ·rename_i t ht;injection h with h
   rw[ht]at hc;have hc:=hc.gQ rfl;refine⟨.value (if t then a.eval a1 else a.eval b),w,ρ,by simp[execOp,hc,asBool],.inl ⟨_,rfl,?_⟩,Post.same hm _ _⟩;rw[<-h];cases t
   ·exact gB he hchk.2
   ·exact gB he hchk.1.2
  ·cases h
 ·rename_i op t x y yt op' t' x' y';replace h:iK m n (nk P op' t' (ev e x') (ev e y'))=.ok v m' n' r wm:=h;have h0:=iJ h;clear h;obtain⟨h,rfl,rfl,rfl,rfl⟩:=h0;simp only[No,beq_iff_eq]at hchk;obtain⟨⟨⟨e1,e2⟩,hx⟩,hy⟩:=hchk;have e1:op=op':=e1;subst e1 e2;obtain⟨v',hr,hv⟩:=HC (w:=w) (gB he hx) (gB he hy) h x y;exact lM.pure hm hr hv
 ·rename_i op t x op' x';replace h:iK m n (FN op' (ev e x'))=.ok v m' n' r wm:=h;have h0:=iJ h;clear h;obtain⟨h,rfl,rfl,rfl,rfl⟩:=h0;simp only[No,beq_iff_eq]at hchk;obtain⟨e1,hx⟩:=hchk;have e1:op=op':=e1;subst e1;obtain⟨v',hr,hv⟩:=FL (P:=P) (w:=w) (gB he hx) h;exact lM.pure hm hr hv
 ·rename_i s d x k x';replace h:iK m n (pP k (ev e x'))=.ok v m' n' r wm:=h;have h0:=iJ h;clear h;obtain⟨h,rfl,rfl,rfl,rfl⟩:=h0;simp only[No]at hchk;obtain⟨⟨hs,hd⟩,hx⟩:=hchk;split at hd
  ·rename_i k' hd';have:k=k':=by simpa using hd
   subst this;obtain⟨v',hr,hv⟩:=EM (w:=w) hs hd' (gB he hx) h;exact lM.pure hm hr hv
  ·cases hd
 ·rename_i t x f off x';replace h:iK m n (KF off (ev e x'))=.ok v m' n' r wm:=h;have h0:=iJ h;clear h;obtain⟨h,rfl,rfl,rfl,rfl⟩:=h0;simp only[No]at hchk;obtain⟨ht,hx⟩:=hchk;split at ht
  ·rename_i fs hfs;split at ht
   ·rename_i fd hfd;simp only[No,beq_iff_eq]at ht;obtain⟨ho,hi⟩:=ht;split at hi
    ·rename_i ti hti;obtain⟨v',hr,hv⟩:=G5 (w:=w) hfs hfd ho hti (by simpa using hi) (gB he hx) h;exact lM.pure hm hr hv
    ·cases hi
   ·cases ht
  ·cases ht
 ·rename_i t x i sz x' i';replace h:iK m n (za (λi=>vJ sz i (ev e x')) (iB (ev e i')))=.ok v m' n' r wm:=h;have h0:=iJ h;clear h;obtain⟨h,rfl,rfl,rfl,rfl⟩:=h0;simp only[No]at hchk;obtain⟨⟨ht,hx⟩,hi⟩:=hchk;split at ht
  ·rename_i el hel;obtain⟨ti,hti,hts⟩:=kf ht
   cases hn:iB (ev e i')with
   |none=>rw[hn]at h;cases h
   |some k=>rw[hn]at h;obtain⟨ik,hik⟩:=kX (gB he hi) hn;obtain⟨v',hr,hv⟩:=GV (w:=w) (k:=ik) hel hti hts (gB he hx) h;refine lM.pure (v':=v') hm ?_ hv;rw[hik];exact hr
  ·cases ht
 ·rename_i t x i k sz x' i';replace h:iK m n (za (λi=>Kv k sz i (ev e x')) (iB (ev e i')))=.ok v m' n' r wm:=h;have h0:=iJ h;clear h;obtain⟨h,rfl,rfl,rfl,rfl⟩:=h0;simp only[No]at hchk;obtain⟨⟨ht,hx⟩,hi⟩:=hchk;split at ht
  ·rename_i k' el hel;simp only[No,beq_iff_eq]at ht;obtain⟨rfl,ht⟩:=ht;obtain⟨ti,hti,hts⟩:=kf ht
   cases hn:iB (ev e i')with
   |none=>rw[hn]at h;cases h
   |some j=>rw[hn]at h;obtain⟨ik,hik⟩:=kX (gB he hi) hn;obtain⟨v',hr,hv⟩:=GW (w:=w) (k:=ik) hel hti hts (gB he hx) h;refine lM.pure (v':=v') hm ?_ hv;rw[hik];exact hr
  ·cases ht
 ·rename_i t ps z ps';replace h:iK m n (uW (ou (pj e ps') z))=.ok v m' n' r wm:=h;have h0:=iJ h;clear h;obtain⟨h,rfl,rfl,rfl,rfl⟩:=h0;obtain⟨c,hc,rfl⟩:=vW h;simp only[No]at hchk;obtain⟨hz,hp⟩:=hchk;obtain⟨ti,zv,hti,hzv,hzl,hfl,_⟩:=qq hz;split at hp
  ·rename_i fs hfs;simp only[No]at hp;obtain⟨hall,hps⟩:=hp;obtain⟨h1,h2⟩:=ph he hps;obtain⟨d',hd,hr⟩:=qz _ _ z c zv.cells h1 h2 (by rw[hzl];exact pK ρ hfl) hc;refine lM.pure (v':=.agg d') hm (CK hti hzv hfs hall hd) (by have:=hr.agg;simpa using this)
  ·rename_i k el hel;split at hp
   ·rename_i ie hie;obtain⟨h1,h2⟩:=ph he hp;obtain⟨d',hd,hr⟩:=qz (place:=λi=>some (i*ie.size,ie.size)) _ _ z c zv.cells h1 h2 (by rw[hzl];exact pK ρ hfl) hc;refine lM.pure (v':=.agg d') hm (Ff hti hzv hel hie hd) (by have:=hr.agg;simpa using this)
   ·cases hp
  ·cases hp
 ·rename_i x i i' x';replace h:iK m n (Bh i' (ev e x'))=.ok v m' n' r wm:=h;have h0:=iJ h;clear h;obtain⟨h,rfl,rfl,rfl,rfl⟩:=h0;simp only[No,beq_iff_eq]at hchk;obtain⟨rfl,hx⟩:=hchk;obtain⟨v',hr,hv⟩:=Ep (P:=P) (w:=w) (gB he hx) h;exact lM.pure hm hr hv
 ·rename_i x x';replace h:iK m n (vD (ev e x'))=.ok v m' n' r wm:=h;have h0:=iJ h;clear h;obtain⟨h,rfl,rfl,rfl,rfl⟩:=h0;obtain⟨ad,hx,hv⟩:=Ce (gB he hchk) h;exact⟨.value (a.eval x),w,ρ,by simp[execOp,hx],.inl ⟨_,rfl,hv⟩,Post.same hm _ _⟩
 ·rename_i f a1 c f' a' c';replace h:OR.ok (.func (.func f') (evs e a').toArray (evs e c').toArray) m n 0 0=.ok v m' n' r wm:=h;injection h with e1 e2 e3 e4 e5;subst e1 e2;subst e3 e4 e5
  simp only[No,beq_iff_eq]at hchk;obtain⟨⟨rfl,ha⟩,hc⟩:=hchk;have h1:=nW he ha;have h2:=nW he hc;refine⟨_,w,ρ,rfl,.inl ⟨_,rfl,?_⟩,Post.same hm n m⟩;refine .func (by simpa using h1.1) (λi x y hx hy=>h1.2 i x y (by simpa using hx) (by simpa using hy)) (by simpa using h2.1) (λi x y hx hy=>h2.2 i x y (by simpa using hx) (by simpa using hy))
 ·rename_i args ts str x';replace h:iK m n (qR str (ev e x'))=.ok v m' n' r wm:=h;have h0:=iJ h;clear h;obtain⟨h,rfl,rfl,rfl,rfl⟩:=h0;split at hchk
  ·rename_i x t hargs hts;simp only[No]at hchk;obtain⟨hx,ht⟩:=hchk;have hargs:args=#[x]:=by apply US;simpa using hargs
   subst hargs;have hxr:=gB he hx
   have hok:∃v',(V8 ts ty #[a.eval x]).run P w=.ok v' w/\VRel ρ v v':=by
    unfold qR at h;split at h
    ·rename_i ad k c hxe;rw[hxe]at hxr;obtain⟨a',c',hsh⟩:=oM hxr;split at ht
     ·rename_i el hel;have:str=false:=by simpa using ht
      subst this;injection h with h;subst h
      exact⟨.int .i64 k,by simp[V8,hts,hsh,run_underlying hel,goInt],.int ρ _ _⟩
     ·subst ht;cases h
     ·cases ht
    ·rename_i s hxe;rw[hxe]at hxr;have e:=hxr.gQ rfl;split at ht
     ·have:str=false:=by simpa using ht
      subst this;cases h
     ·rename_i hst;subst ht;injection h with h;subst h
      exact⟨.int .i64 s.size,by simp[V8,hts,e,run_underlying hst,goInt],.int ρ _ _⟩
     ·cases ht
    ·cases h
   obtain⟨v',hr,hv⟩:=hok;exact⟨.value v',w,ρ,by simp[execOp,resolve,invoke,builtin,hr],.inl ⟨_,rfl,hv⟩,Post.same hm _ _⟩
  ·cases hchk
 ·rename_i args ts x' y';replace h:iK m n (mxV (ev e x') (ev e y'))=.ok v m' n' r wm:=h;have h0:=iJ h;clear h;obtain⟨h,rfl,rfl,rfl,rfl⟩:=h0;split at hchk
  ·rename_i x y hargs;simp only[No]at hchk;have hargs:args=#[x,y]:=by apply US;simpa using hargs
   subst hargs;obtain⟨v',hr,hv⟩:=Kf (P:=P) (w:=w) ts ty (gB he hchk.1) (gB he hchk.2) h;refine⟨.value v',w,ρ,?_,.inl ⟨_,rfl,hv⟩,Post.same hm _ _⟩;simp[execOp,resolve,invoke,builtin,hr]
  ·cases hchk
 ·rename_i t x lo hi sz x' lo' hi';replace h:wV m n sz (wU sz (oev e lo') (oev e hi') (ev e x')) (ev e x')=.ok v m' n' r wm:=h;simp only[No]at hchk;obtain⟨⟨⟨ht,hx⟩,hlo⟩,hhi⟩:=hchk
  have opt:∀{u:Option Uz} {u':Option Opd},oQ Γ u u'=true->(oev e u'=none/\u.map a.eval=none)\/∃y y',oev e u'=some y/\u.map a.eval=some y'/\VRel ρ y y':=by
   intro u u' hu
   cases u with
   |none=>cases u' with
    |none=>exact .inl ⟨rfl,rfl⟩
    |some _=>cases hu
   |some u=>cases u' with
    |none=>cases hu
    |some u'=>exact .inr ⟨_,_,rfl,rfl,gB he hu⟩
  split at ht
  ·rename_i el hel;obtain⟨ti,hti,hts⟩:=kf ht;have hxr:=gB he hx;have fin:∀{r0:Nat},(∀b o k p,ev e x'=.slice (some ⟨b,o,none⟩) k UNK->ρ b=some p->p.sz=sz)->wU sz (oev e lo') (oev e hi') (ev e x')=some v->m'=m->n'=n->wm=0->lM P ρ V w B n m' n' wm v (execOp a.eval ⟨dst,.slice t x lo hi none,ty,pos,after,guard⟩):=by intro r0 hs hv e1 e2 e3;subst e1 e2 e3;obtain⟨v',hr,hv'⟩:=FZ (w:=w) hel hti hts (opt hlo) (opt hhi) hs hxr hv;exact lM.pure hm hr hv'
   unfold wV at h;split at h
   ·rename_i b o ln c hxe;cases hc:SF c UNK
    ·rw[hc,cond_false]at h;obtain⟨h1,h2,h3,_,h5⟩:=iJ h;refine fin (r0:=0) (λb o k p hk=>?_) h1 h2 h3 h5;rw[hxe]at hk;injection hk with _ _ hk;subst hk;simp at hc
    ·rw[hc,cond_true]at h;cases hz:BJ sz (jc m n b)
     ·rw[hz,cond_false]at h;cases h
     ·rw[hz,cond_true]at h;obtain⟨h1,h2,h3,h4,h5⟩:=xf h;refine fin (r0:=0) (λb' o' k p hk hp=>?_) h1 h2 h3 h5;rw[hxe]at hk;injection hk with hk _ _;injection hk with hk;injection hk with hk _;subst hk
      unfold BJ at hz;split at hz
      ·rename_i s _ _ hg;have hz:s=sz:=SG hz;obtain⟨_,hb⟩:=ji hm hag (by rw[gv,h4,gx];simp) hg hp;rw[hb.1,hz]
      ·cases hz
   ·rename_i hno;obtain⟨h1,h2,h3,_,h5⟩:=iJ h;exact fin (r0:=0) (λb o k p hk=>absurd hk (hno b o k UNK)) h1 h2 h3 h5
  ·cases ht
 ·rename_i t z;replace h:nD m n (.cells z 0 false true) B7=.ok v m' n' r wm:=h;obtain⟨ti,zv,hti,hzv,hzl,hfl,_⟩:=qq hchk;obtain⟨rfl,ρ',hn,hpost⟩:=qi (c':=zv.cells.toList) hm h hfree 0 t (by rw[hzl];exact IN _) (by rw[hzl];exact(pK ρ hfl).aaT) (λh=>by cases h);refine lM.val (v':=.pointer (some ⟨w.heap.size,0,none⟩)) (w':=w.alloc (.cells zv.cells t)) ?_ ?_ (by simpa using hpost)
  ·simp only[Instr.alloc,SU,kJ hti hzv,Result.andThen_ok,newVar,newRow];rfl
  ·exact VRel.ptr (o:=0) hn
 ·rename_i t x x';replace h:nD m n (.cells (ev e x').cells.toList 0 false true) B7=.ok v m' n' r wm:=h;have hx:=(gB he hchk).cells;obtain⟨rfl,ρ',hn,hpost⟩:=qi (c':=(a.eval x).cells.toList) hm h hfree 0 t (by rw[hx.1];exact IN _) hx.aaT (λh=>by cases h);refine lM.val (v':=.pointer (some ⟨w.heap.size,0,none⟩)) (w':=w.alloc (.cells (a.eval x).cells t)) ?_ ?_ (by simpa using hpost)
  ·simp only[Instr.box,SU,newVar,newRow];rfl
  ·exact VRel.ptr (o:=0) hn
 ·rename_i t len ps sz len' z ps';replace h:D4 m n sz len' (ou (mO sz e ps') (pY z len'))=.ok v m' n' r wm:=h;simp only[No,beq_iff_eq,decide_eq_true_eq]at hchk;obtain⟨⟨⟨rfl,hle⟩,ht⟩,hps⟩:=hchk;split at ht
  ·rename_i el hel;simp only[No,beq_iff_eq,UU]at ht;obtain⟨⟨⟨hsz,hz⟩,hzl⟩,hz0⟩:=ht;have hz0:sz≠0:=by intro e;subst e;simp at hz0
   obtain⟨ti,hti,hts⟩:=kf hsz;obtain⟨ti',zv,hti',hzv,hzl',hfl,_⟩:=qq hz;have:ti=ti':=by rw[hti]at hti';injection hti'
   subst this
   cases hc:ou (mO sz e ps') (pY z len)with
   |none=>rw[hc]at h;cases h
   |some c=>
    rw[hc]at h;replace h:nD m n (.cells c sz false true) (Ah 0 len len)=.ok v m' n' r wm:=h;obtain⟨h1,h2⟩:=rk he sz hps;have hzs:zv.cells.size=sz:=by have:=congrArg U9 hzl';simp at this;omega
    have hcells:((VE (len*sz)).map (λi=>zv.cells[i % zv.cells.size]!)).toList=pY z len:=by rw[Dh hzs hz0,hzl',sP]
    obtain⟨d',hd,hr⟩:=qz (ρ:=ρ) (place:=λi=>some (i*sz,sz)) _ _ _ c ((VE (len*sz)).map (λi=>zv.cells[i % zv.cells.size]!)) h1 h2
     (by rw[hcells];refine pK ρ ?_;rw[sP,List.all_flatten];simp only[Tv];intro l hl;rw[XE hl];simpa[Tv]using hfl) hc
    obtain⟨rfl,ρ',hn,hpost⟩:=qi (c':=d'.toList) hm h hfree 0 el (by rw[hr.1];exact IN _) hr.aaT (λh=>by cases h);have hlen:len<=16777216:=by have:=Nat.le_mul_of_pos_right len (Nat.pos_of_ne_zero hz0);omega
    refine lM.val (v':=.slice (some ⟨w.heap.size,0,none⟩) len len) (w':=w.alloc (.cells d' el)) ?_ ?_ (by simpa using hpost)
    ·exact yH hel hti hzv hts hle hd
    ·exact VRel.slice (o:=0) hn (IN _) (λh=>by unfold UNK at h;omega) (λ_=>rfl) (by unfold VAG;omega)
  ·cases ht
 ·rename_i t l c sz bytes z l' c';replace h:wy sz bytes z m n (iB (ev e l')) (iB (ev e c'))=.ok v m' n' r wm:=h;simp only[No]at hchk;obtain⟨⟨ht,hl⟩,hc⟩:=hchk;split at ht
  ·rename_i el hel;simp only[No,beq_iff_eq,UU]at ht;obtain⟨⟨⟨⟨hsz,hby⟩,hz⟩,hzl⟩,hz0⟩:=ht;have hz0:sz≠0:=by intro e;subst e;simp at hz0
   obtain⟨ti,hti,hts⟩:=kf hsz;obtain⟨ti2,hti2,htb⟩:=wA hby;have:ti=ti2:=by rw[hti]at hti2;injection hti2
   subst this;obtain⟨ti',zv,hti',hzv,hzl',hfl,_⟩:=qq hz;have:ti=ti':=by rw[hti]at hti';injection hti'
   subst this;have hzs:zv.cells.size=sz:=by have:=congrArg U9 hzl';simp at this;omega
   cases hnl:iB (ev e l')with
   |none=>rw[hnl]at h;cases h
   |some l1=>
    cases hnc:iB (ev e c')with
    |none=>rw[hnl,hnc]at h;cases h
    |some c1=>
     rw[hnl,hnc]at h;obtain⟨k,hk⟩:=kX (gB he hl) hnl;obtain⟨k',hk'⟩:=kX (gB he hc) hnc;replace h:cond (Tj l1 c1&&Tj (Vu c1 bytes) 281474976710656&&Tj c1 1099511627776) (nD m n (.cells (pY z c1) sz false true) (Ah 0 l1 c1)) .no=.ok v m' n' r wm:=h;cases hb:(Tj l1 c1&&Tj (Vu c1 bytes) 281474976710656&&Tj c1 1099511627776)
     ·rw[hb,cond_false]at h;cases h
     ·rw[hb,cond_true]at h;simp only[No,Nat.ble_eq]at hb;obtain⟨⟨hb1,hb2⟩,hb3⟩:=hb;have hb2:c1*bytes<=281474976710656:=hb2;have hfl2:(pY z c1).all flat=true:=by rw[sP,List.all_flatten];simp only[Tv];intro l hl;rw[XE hl];simpa[Tv]using hfl
      obtain⟨rfl,ρ',hn,hpost⟩:=qi (c':=pY z c1) hm h hfree 0 el (IN _) (pK ρ hfl2).aaT (λh=>by cases h);refine lM.val (v':=.slice (some ⟨w.heap.size,0,none⟩) l1 c1) ?_ ?_ hpost
      ·rw[hk,hk',yF hel hti hzv hts hb1 (by rw[htb];exact hb2) hb3 hz0 hzs,hzl',sP]
      ·exact VRel.slice (o:=0) hn hb1 (λh=>by unfold UNK at h;omega) (λ_=>rfl) (by unfold VAG;omega)
  ·cases ht
 ·rename_i t x x';replace h:Ak m n (ev e x')=.ok v m' n' r wm:=h;simp only[No,beq_iff_eq]at hchk;obtain⟨v',hr,hv,rfl,rfl,rfl⟩:=GL hchk.1 hm (gB he hchk.2) h hag;exact lM.pure hm hr hv
 ·rename_i t x k x';replace h:Aj k m n (ev e x')=.ok v m' n' r wm:=h;simp only[No,beq_iff_eq]at hchk;obtain⟨v',hr,hv,rfl,rfl,rfl⟩:=GK hchk.1.1 hchk.1.2 hm (gB he hchk.2) h hag;exact lM.pure hm hr hv
 ·rename_i t x y k x' y';replace h:stV k (ev e y').cells.toList m n (ev e x')=.ok v m' n' r wm:=h;simp only[No]at hchk;obtain⟨rfl,w',hr,hpost⟩:=JH hchk.1.1 hm (gB he hchk.1.2) (gB he hchk.2) h hag;exact⟨.skip,w',ρ,by simp[execOp,hr],.inr ⟨rfl,rfl⟩,hpost⟩
 ·rename_i args ts sz bytes x' y';replace h:nl sz bytes m n (ev e x') (ev e y') (shown m n sz (ev e x')) (shown m n sz (ev e y'))=.ok v m' n' r wm:=h;split at hchk
  ·rename_i x y t u hargs hts;simp only[No]at hchk;obtain⟨⟨hx,hy⟩,ht⟩:=hchk;have hargs:args=#[x,y]:=by apply US;simpa using hargs
   have hts:ts=#[t,u]:=by apply US;simpa using hts
   subst hargs hts;split at ht
   ·rename_i el el2 hel hel2;simp only[No]at ht;obtain⟨⟨⟨hsz,hby⟩,_⟩,hz⟩:=ht;obtain⟨ti,hti,hts⟩:=kf hsz;obtain⟨ti2,hti2,htb⟩:=wA hby;have:ti=ti2:=by rw[hti]at hti2;injection hti2
    subst this;rw[hti]at hz;simp only at hz;split at hz
    ·rename_i zv hzv;have hzs:zv.cells.size=sz:=by simpa using hz
     obtain⟨v',w',ρ',hr,hv,hpost⟩:=HR (P:=P) (ty:=ty) hm h hag hfree hel hel2 hti hzv hts hzs htb (gB he hx) (gB he hy);exact⟨.value v',w',ρ',by simp[execOp,resolve,invoke,builtin,hr],.inl ⟨_,rfl,hv⟩,hpost⟩
    ·cases hz
   ·cases ht
  ·cases hchk
 ·rename_i f args ts g args';exact absurd rfl (hnc.1 g args')
 ·rename_i f args ts x args';exact absurd rfl (hnc.2 x args')
 ·rename_i t x i x' i';replace h:iK m n (Option.rec (motive:=λ_=>Option AT) none (λi=>Hq i (ev e x')) (iB (ev e i')))=.ok v m' n' r wm:=h;have h0:=iJ h;clear h;obtain⟨h,rfl,rfl,rfl,rfl⟩:=h0;rw[No,No]at hchk;obtain⟨⟨ht,hx⟩,hi⟩:=hchk
  cases hn:iB (ev e i')with
  |none=>rw[hn]at h;cases h
  |some k=>rw[hn]at h;obtain⟨ik,hik⟩:=kX (gB he hi) hn;obtain⟨v',hr,hv⟩:=Hp (w:=w) (k:=ik) ht (gB he hx) h;refine lM.pure (v':=v') hm ?_ hv;rw[hik];exact hr
 ·rename_i t x i n0 x' i';replace h:iK m n (Option.rec (motive:=λ_=>Option AT) none (λi=>GU n0 i (ev e x')) (iB (ev e i')))=.ok v m' n' r wm:=h;have h0:=iJ h;clear h;obtain⟨h,rfl,rfl,rfl,rfl⟩:=h0;rw[No,No]at hchk;obtain⟨⟨ht,hx⟩,hi⟩:=hchk
  cases hn:iB (ev e i')with
  |none=>rw[hn]at h;cases h
  |some k=>rw[hn]at h;obtain⟨ik,hik⟩:=kX (gB he hi) hn;obtain⟨v',hr,hv⟩:=GR (w:=w) (k:=ik) ht (gB he hx) h;refine lM.pure (v':=v') hm ?_ hv;rw[hik];exact hr
 ·rename_i t x f off x';replace h:iK m n (KH off (ev e x'))=.ok v m' n' r wm:=h;have h0:=iJ h;clear h;obtain⟨h,rfl,rfl,rfl,rfl⟩:=h0;rw[No]at hchk;obtain⟨v',hr,hv⟩:=G6 (w:=w) hchk.1 (gB he hchk.2) h;exact lM.pure hm hr hv
 ·rename_i t x lo hi x' a' b';replace h:iK m n (Dt (iB (ev e a')) (iB (ev e b')) (ev e x'))=.ok v m' n' r wm:=h;simp only[No]at hchk;obtain⟨⟨⟨ht,hx⟩,hlo⟩,hhi⟩:=hchk;exact yq hm ht (gB he hx) (by cases lo with|none=>cases hlo|some l=>exact .inr ⟨_,_,rfl,rfl,gB he hlo⟩) (by cases hi with|none=>cases hhi|some l=>exact .inr ⟨_,_,rfl,rfl,gB he hhi⟩) h
 ·rename_i t x lo hi x' a';replace h:iK m n (Dt (iB (ev e a')) (My (ev e x')) (ev e x'))=.ok v m' n' r wm:=h;simp only[No]at hchk;obtain⟨⟨⟨ht,hx⟩,hlo⟩,hhi⟩:=hchk;exact yq hm ht (gB he hx) (by cases lo with|none=>cases hlo|some l=>exact .inr ⟨_,_,rfl,rfl,gB he hlo⟩) (by cases hi with|none=>exact .inl ⟨rfl,rfl⟩|some l=>cases hhi) h
 ·rename_i t x lo hi x' b';replace h:iK m n (Dt (some 0) (iB (ev e b')) (ev e x'))=.ok v m' n' r wm:=h;simp only[No]at hchk;obtain⟨⟨⟨ht,hx⟩,hlo⟩,hhi⟩:=hchk;exact yq hm ht (gB he hx) (by cases lo with|none=>exact .inl ⟨rfl,rfl⟩|some l=>cases hlo) (by cases hi with|none=>cases hhi|some l=>exact .inr ⟨_,_,rfl,rfl,gB he hhi⟩) h
 ·rename_i op1 t x y kk op' t' x' y';replace h:iK m n (vQ P op' t' (ev e x') (ev e y'))=.ok v m' n' r wm:=h;have h0:=iJ h;clear h;obtain⟨h,rfl,rfl,rfl,rfl⟩:=h0;simp only[No,beq_iff_eq]at hchk;obtain⟨⟨⟨rfl,rfl⟩,hx⟩,hy⟩:=hchk;obtain⟨v',hr,hv⟩:=HB (w:=w) (gB he hx) (gB he hy) h x y;exact lM.pure hm hr hv
 ·rename_i op1 t x y kk op' t' x';replace h:iK m n (aaN P op' t' (ev e x'))=.ok v m' n' r wm:=h;have h0:=iJ h;clear h;obtain⟨h,rfl,rfl,rfl,rfl⟩:=h0;simp only[No,beq_iff_eq]at hchk;obtain⟨⟨⟨rfl,rfl⟩,hy⟩,hx⟩:=hchk;split at hy
  ·obtain⟨v',hr,hv⟩:=GP (w:=w) (gB he hx) h x;exact lM.pure hm hr hv
  ·cases hy
 ·rename_i t;replace h:nD m n (.map []) mapP=.ok v m' n' r wm:=h;unfold nD at h;cases hl:AMem.lim m n
  ·rw[hl,cond_false]at h;cases h
  ·rw[hl,cond_true]at h;injection h with e1 e2 e3 e4 e5;subst e1 e2;subst e3 e4 e5
   obtain⟨ρ',hn,hpost⟩:=Post.new (n':=Nat.succ n) hm hl hfree (.map []) (.map #[] 0) 0 (λρ' _=>⟨hm.le,#[],0,heap_alloc w _,rfl,gY.nil ρ',⟨λx hx=>by simp at hx,by simp⟩⟩) rfl;refine lM.val (v':=.map (some w.heap.size)) (w':=w.alloc (.map #[] 0)) ?_ (VRel.map hn) hpost;simp only[Instr.makeMap,Option.map_none,SU,newObj];rfl
 ·rename_i t x i ok kt z ok' x' i';simp only[No,beq_iff_eq]at hchk;obtain⟨⟨⟨rfl,ht⟩,hx⟩,hi⟩:=hchk;have hxr:=gB he hx;have hir:=gB he hi;split at ht
  ·rename_i k el hel;simp only[No,beq_iff_eq]at ht;obtain⟨rfl,hz⟩:=ht;unfold IG at hz;split at hz
   ·rename_i ti hti;split at hz
    ·rename_i zv hzv;simp only[No]at hz;obtain⟨hze,hzf⟩:=hz;have hze:=FJ hze;subst hze
     replace h:cond (gy (ev e i')) (match ev e x' with
      | .map none=>iK m n (zk ok zv [] (j0 P true k (ev e i') []))
      | .map (some b)=>A' P k zv ok m n b (ev e i') (jc m n b)
      |_=>.no) .no=.ok v m' n' r wm:=h
     cases hf:gy (ev e i')
     ·rw[hf,cond_false]at h;cases h
     rw[hf,cond_true]at h;have hiv:=hir.qy hf;split at h
     ·rename_i hxe;have h0:=iJ h;clear h;obtain⟨h,rfl,rfl,rfl,rfl⟩:=h0;rw[hxe]at hxr;have e0:=hxr.gQ rfl
      cases hk:j0 P true k (ev e i') []with
      |none=>rw[hk]at h;cases h
      |some rr=>rw[hk]at h;obtain⟨v',hv,hv'⟩:=A8 (ρ:=ρ) (es:=[]) (es':=[]) hzf (gY.nil ρ) h;refine lM.pure (v':=v') hm ?_ hv;rw[hv',e0,hiv];exact yG (es':=#[]) hel hti hzv (.inl ⟨rfl,rfl⟩) hk
     ·rename_i b hxe;unfold A' at h;split at h
      ·rename_i es hg;have h0:=xf h;clear h;obtain⟨h,rfl,rfl,rfl,rfl⟩:=h0;rw[hxe]at hxr
       cases hk:j0 P es.isEmpty k (ev e i') (es.map (·.1))with
       |none=>rw[hk]at h;cases h
       |some rr=>
        rw[hk]at h;generalize hxv:a.eval x=xv at hxr
        cases hxr with
        |flat hfl=>simp[flat]at hfl
        |map hp=>
         obtain⟨_,hB,es',cl,hg',hkeys,hvals,_⟩:=rB hm hag (by rw[gv,gx];simp) hg hp;obtain⟨v',hv,hv'⟩:=A8 hzf hvals h
         have hemp:es.isEmpty=es'.isEmpty:=by
          have:=congrArg U9 hkeys;simp at this
          cases es with
          |nil=>simp at this;simp[XM,this]
          |cons a l=>simp at this;simp[XM,this]
         rw[hemp,<-hkeys]at hk;refine lM.pure (v':=v') hm ?_ hv;rw[hv',hxv,hiv];exact yG hel hti hzv (.inr ⟨_,cl,rfl,hg'⟩) hk
      ·cases h
     ·cases h
    ·cases hz
   ·cases hz
  ·cases ht
 ·rename_i t x k y kt x' k' y';simp only[No]at hchk;obtain⟨⟨⟨ht,hx⟩,hk0⟩,hy⟩:=hchk;split at ht
  ·rename_i kt' el hel;have ht:kt'=kt:=by simpa using ht
   subst ht;obtain⟨w',ρ',hrun,hp⟩:=Dp (a:=a) hel hm hag (gB he hx) (gB he hk0) (gB he hy) h;obtain⟨rfl,hpost⟩:=hp;exact⟨.skip,w',ρ',by simp[execOp,hrun,Result.andThen],.inr ⟨rfl,rfl⟩,hpost⟩
  ·cases ht
 ·rename_i t x k y kt x' k' y';simp only[No]at hchk;obtain⟨⟨⟨ht,hx⟩,hk0⟩,hy⟩:=hchk;split at ht
  ·rename_i kt' el hel;have ht:kt'=kt:=by simpa using ht
   subst ht;obtain⟨w',ρ',hrun,hp⟩:=Dp (a:=a) hel hm hag (gB he hx) (gB he hk0) (gB he hy) h;obtain⟨rfl,hpost⟩:=hp;exact⟨.skip,w',ρ',by simp[execOp,hrun,Result.andThen],.inr ⟨rfl,rfl⟩,hpost⟩
  ·cases ht
 ·rename_i args ts kt x' k';split at hchk
  ·rename_i x k t hargs hts;simp only[No]at hchk;obtain⟨⟨hx,hk0⟩,ht⟩:=hchk;have hargs:args=#[x,k]:=by apply US;simpa using hargs
   subst hargs;have hxr:=gB he hx;have hkr:=gB he hk0;split at ht
   ·rename_i kt' el hel;have ht:kt'=kt:=by simpa using ht
    subst ht
    replace h:cond (gy (ev e k')) (match ev e x' with
     | .map (some b)=>KQ P kt' m n b (ev e k') (jc m n b)
     |_=>.no) .no=.ok v m' n' r wm:=h
    cases hf:gy (ev e k')
    ·rw[hf,cond_false]at h;cases h
    rw[hf,cond_true]at h;have hkv:=hkr.qy hf;split at h
    ·rename_i b hxe;unfold KQ at h;split at h
     ·rename_i es hg;unfold Ai at h;split at h
      ·rename_i es1 he1;injection h with e1 e2 e3 e4 e5;subst e1 e2;subst e3 e4 e5
       rw[hxe]at hxr
       cases hk:j0 P es.isEmpty kt' (ev e k') (es.map (·.1))with
       |none=>rw[hk]at he1;cases he1
       |some rr=>
        rw[hk]at he1;generalize hxv:a.eval x=xv at hxr
        cases hxr with
        |flat hfl=>simp[flat]at hfl
        |map hp=>rename_i p;obtain⟨hV,hB⟩:=rB hm hag (by rw[gv,gx];simp) hg hp;obtain⟨w',hrun,hb',hother,hos,htape,hout,hsize⟩:=KP (ty:=ty) hts hel hB hk he1;refine⟨.value undef,w',ρ,?_,.inl ⟨_,rfl,VRel.undef ρ⟩,Post.LO hm (AMem.get_lim _ _ _ (gW hg).2) hp hV rfl rfl hB.1 hb' hother hos htape hout hsize⟩;simp[execOp,resolve,invoke,builtin,hxv,hkv,hrun,Result.andThen]
      ·cases h
     ·cases h
    ·cases h
   ·cases ht
  ·cases hchk
 ·rename_i s d x x';simp only[No]at hchk;obtain⟨ht,hx⟩:=hchk;have hxr:=gB he hx
  replace h:(match ev e x' with
   | .slice (some ⟨b,o,none⟩) (l+1) _=>kN m n b o (l+1) (jc m n b)
   |_=>.no)=.ok v m' n' r wm:=h
  split at h
  ·rename_i b o l c hxe;unfold kN at h;split at h
   ·rename_i cs sz opn wr hg;cases hz:SF sz 1
    ·rw[hz]at h;cases h
    ·rw[hz,cond_true]at h;have hsz:=SG hz;subst hsz;unfold Mn at h;split at h
     ·rename_i xs hxs;split at h
      ·rename_i zs hzs;have h:OR.ok (Value.string (strOf zs)) m n (bit b) 0=.ok v m' n' r wm:=h;injection h with e1 e2 e3 e4 e5
       subst e1 e2;subst e3 e4 e5;rw[hxe]at hxr;generalize hxv:a.eval x=xv at hxr
       cases hxr with
       |flat hf=>simp[flat]at hf
       |slice hp hn hu hk hv=>
        rename_i c' p;obtain⟨_,hb⟩:=ji hm hag (by rw[gv,gx];simp) hg hp;obtain⟨l',hr,hlen,hcell⟩:=oE hb hxs;have hl':l'=zs.map (Value.int .u8):=by rw[<-yh hzs];exact(gY.uE hr (by rw[yh hzs];exact Ry zs))
        have hload:=run_loadCells_list (P:=P) w ⟨p.blk,p.base+o,none⟩ l' (λj v hv=>(hcell j v hv).2);rw[hlen,hl']at hload;have hbs:=run_bytesToString (P:=P) w ⟨p.blk,p.base+o,none⟩ (l+1) c' zs hload;split at ht
        ·rename_i el hs hd;split at ht
         ·rename_i hel;refine⟨.value (.string (strOf zs)),w,ρ,?_,.inl ⟨_,rfl,.flat rfl⟩,Post.same hm _ _⟩;have hconv:(convert s d (.slice (some ⟨p.blk,p.base+o,none⟩) (l+1) c')).run P w=.ok (.string (strOf zs)) w:=by simp only[convert,SU,run_underlying hs,run_underlying hd,Result.andThen_ok,run_underlying hel];exact hbs
          simp[execOp,hxv,hconv,Result.andThen]
         ·cases ht
        ·cases ht
      ·cases h
     ·cases h
   ·cases h
  ·cases h
 ·rename_i args ts x' y';replace h:iK m n (mnV (ev e x') (ev e y'))=.ok v m' n' r wm:=h;have h0:=iJ h;clear h;obtain⟨h,rfl,rfl,rfl,rfl⟩:=h0;split at hchk
  ·rename_i x y hargs;simp only[No]at hchk;have hargs:args=#[x,y]:=by apply US;simpa using hargs
   subst hargs;obtain⟨v',hr,hv⟩:=Kh (P:=P) (w:=w) ts ty (gB he hchk.1) (gB he hchk.2) h;refine⟨.value v',w,ρ,?_,.inl ⟨_,rfl,hv⟩,Post.same hm _ _⟩;simp[execOp,resolve,invoke,builtin,hr]
  ·cases hchk
 ·rename_i args ts sz x' y';split at hchk
  ·rename_i x y t hargs hts;simp only[No]at hchk;obtain⟨⟨hx,hy⟩,ht⟩:=hchk;have hargs:args=#[x,y]:=by apply US;simpa using hargs
   subst hargs;have hxr:=gB he hx;have hyr:=gB he hy;split at ht
   ·rename_i el hel;obtain⟨ti,hti,hts'⟩:=kf ht;replace h:EG sz m n (shown m n sz (ev e y')) (ev e x') (ev e y')=.ok v m' n' r wm:=h;generalize hxe:ev e x'=xm at h hxr;generalize hye:ev e y'=ym at h hyr;generalize hxv:a.eval x=xv at hxr;generalize hyv:a.eval y=yv at hyr;unfold EG at h;split at h
    ·rename_i b o l c a2 k c2;split at h
     ·rename_i q hq;cases hc:(Tj k l&&Te 0 k)
      ·rw[hc,cond_false]at h;cases h
      rw[hc,cond_true]at h;rw[No]at hc;have hkl:=Uo hc.1;have hk0:0<k:=Uo hc.2;unfold Oi at h;split at h
      ·rename_i cs s opn hg;cases hb:(SF s sz&&q.1.all one)
       ·rw[hb,cond_false]at h;cases h
       rw[hb,cond_true]at h;rw[No]at hb;obtain rfl:=SG hb.1;unfold tJ at h;split at h
       ·rename_i c' hs;injection h with e1 e2 e3 e4 e5
        subst e1 e2;subst e3 e4 e5;obtain⟨a',c3,rfl⟩:=oM hyr;obtain⟨q1,q2⟩:=q;obtain⟨l',hlr,hll,hfc⟩:=rc (P:=P) hm hyr hq hag (λj hj=>by rw[gv,gv];simp[hj])
        cases hxr with
        |flat hf=>simp[flat]at hf
        |vag=>omega
        |slice hp g1 g2 g3 g4=>
         rename_i c4 p;obtain⟨hV,hbr⟩:=ji hm hag (by rw[gv,gv,gx];simp) hg hp
         have hone:∀v∈l',v.oneCell'=true:=by
          intro v hv;obtain⟨j,hj,rfl⟩:=List.getElem_of_mem hv;have hj':j<q1.length:=by rw[hlr.1];exact hj
          have:=hlr.2 j _ _ (SH hj') (SH hj);refine this.one ?_;have h2:=hb.2;rw[Tv]at h2;exact h2 _ (List.getElem_mem hj')
         obtain⟨w',hw,hb',ho,h1,h2,h3,h4⟩:=zN (P:=P) hbr hs hlr hone;refine⟨.value (.int .i64 (k:Int)),w',ρ,?_,.inl ⟨_,rfl,.int ρ _ _⟩,Post.write hm (AMem.get_lim _ _ _ (gW hg).2) hp hV hb' ho h1 h2 h3 h4⟩;have hmin:Nat.min k l=k:=Nat.min_eq_left hkl;have hfc':=hfc ti.size w hts' rfl;simp[execOp,resolve,invoke,builtin,Builtin.copy_,hts,hxv,hyv,run_underlying hel,Xs,run_sizeOf hti,hmin,hfc',hw,goInt,Result.andThen]
       ·cases h
      ·cases h
     ·cases h
    ·cases h
   ·cases ht
  ·cases hchk
 ·rename_i t x hi mx x' h' k';simp only[No]at hchk;obtain⟨⟨⟨ht,hx⟩,hhi⟩,hmx⟩:=hchk;replace h:iK m n (RN (ev e x') (iB (ev e h')) (iB (ev e k')))=.ok v m' n' r wm:=h;have h0:=iJ h;clear h;obtain⟨h,rfl,rfl,rfl,rfl⟩:=h0;split at ht
  ·rename_i el hel;obtain⟨ti,hti⟩:=Option.isSome_iff_exists.1 ht;obtain⟨v',hr,hv⟩:=FX (w:=w) hel hti (gB he hx) (gB he hhi) (gB he hmx) h;exact lM.pure hm hr hv
  ·cases ht
 ·rename_i s d x x';simp only[No]at hchk;obtain⟨ht,hx⟩:=hchk;have hxr:=gB he hx
  replace h:(match ev e x' with
   | .string s=>nD m n (.cells (bytesOf s) 1 false false) (bytP s.size)
   |_=>.no)=.ok v m' n' r wm:=h
  split at h
  ·rename_i t hxe;rw[hxe]at hxr;have hxv:=hxr.gQ rfl;split at ht
   ·rename_i el hs hd;split at ht
    ·rename_i hel;have hrun:=Lib.run_convert_string_bytes (P:=P) w s d el t hs hd hel;obtain⟨rfl,ρ',hn,hpost⟩:=Gx hm h hfree (grownCap w t.size 0 el) (Fh w el t) (by rw[Lib.bytesWorld_size];omega) (Lib.bytesWorld_at_new w el t) (λi x hx=>⟨x,(wL w el t i x hx).1,.flat (wL w el t i x hx).2⟩) (by simp[bytesOf,Lib.bytesCells]);refine⟨.value (.slice (some ⟨w.heap.size,0,none⟩) t.size (grownCap w t.size 0 el)),Lib.bytesWorld w el t,ρ',?_,.inl ⟨_,rfl,?_⟩,hpost⟩
     ·simp[execOp,hxv,hrun,Result.andThen]
     ·exact VRel.slice (o:=0) hn (grownCap_ge w _ _ _) (λ_=>by show 0+grownCap w t.size 0 el*1=grownCap w t.size 0 el;omega) (λh=>absurd rfl h) (by decide)
    ·cases ht
   ·cases ht
  ·cases h
 ·rename_i args ts x';split at hchk
  ·rename_i x t hargs hts;simp only[No]at hchk;obtain⟨hx,ht⟩:=hchk;have hargs:args=#[x]:=by apply US;simpa using hargs
   subst hargs;have hxr:=gB he hx;split at ht
   ·rename_i kt el hel
    replace h:(match ev e x' with
     | .map none=>iK m n (some (.int .i64 0))
     | .map (some b)=>Ki m n b (jc m n b)
     |_=>.no)=.ok v m' n' r wm:=h
    split at h
    ·rename_i hxe;injection h with e1 e2 e3 e4 e5;subst e1 e2;subst e3 e4 e5
     rw[hxe]at hxr;have hxv:=hxr.gQ rfl;refine⟨.value (.int .i64 0),w,ρ,?_,.inl ⟨_,rfl,.int ρ _ _⟩,Post.same hm _ _⟩;simp[execOp,resolve,invoke,builtin,V8,hts,hxv,run_underlying hel,goInt,Result.andThen]
    ·rename_i b hxe;unfold Ki at h;split at h
     ·rename_i es hg;have h:OR.ok (Value.int .i64 (es.length:Int)) m n (bit b) 0=.ok v m' n' r wm:=h;injection h with e1 e2 e3 e4 e5;subst e1 e2;subst e3 e4 e5
      rw[hxe]at hxr;generalize hxv:a.eval x=xv at hxr
      cases hxr with
      |flat hfl=>simp[flat]at hfl
      |map hp=>
       rename_i p;obtain⟨hV,hB⟩:=rB hm hag (by rw[gv,gx];simp) hg hp;obtain⟨hb0,es',clock,hw,hk1,hk2,hk3⟩:=hB;have hlen:es'.size=es.length:=by have:=congrArg U9 hk1;simpa using this
       refine⟨.value (.int .i64 (es.length:Int)),w,ρ,?_,.inl ⟨_,rfl,.int ρ _ _⟩,Post.same hm _ _⟩;have h4:(getObj p.blk).run P w=.ok (.map es' clock) w:=by simp[getObj,Sem.run,hw]
       simp[execOp,resolve,invoke,builtin,V8,hts,hxv,run_underlying hel,goInt,Result.andThen,h4,hlen]
     ·cases h
    ·cases h
   ·cases ht
  ·cases hchk
 ·rename_i t x k x';replace h:iK m n (abG k (ev e x'))=.ok v m' n' r wm:=h;have h0:=iJ h;clear h;obtain⟨h,rfl,rfl,rfl,rfl⟩:=h0;simp only[No]at hchk;obtain⟨hchk,hx⟩:=hchk;split at hchk
  ·rename_i k' el ht;simp only[No,beq_iff_eq,Option.isSome_iff_exists]at hchk;obtain⟨rfl,i,hi⟩:=hchk;obtain⟨v',hr,hv⟩:=HN (P:=P) (w:=w) ht hi (gB he hx) h;refine⟨.value v',w,ρ,?_,.inl ⟨_,rfl,hv⟩,Post.same hm _ _⟩;simp[execOp,hr]
  ·cases hchk
 ·rename_i t x k x';replace h:iK m n (RY k (ev e x'))=.ok v m' n' r wm:=h;have h0:=iJ h;clear h;obtain⟨h,rfl,rfl,rfl,rfl⟩:=h0;simp only[No]at hchk;obtain⟨hchk,hx⟩:=hchk;split at hchk
  ·rename_i k' el ht;simp only[beq_iff_eq]at hchk;subst hchk;obtain⟨v',hr,hv⟩:=Gb (P:=P) (w:=w) ht (gB he hx) h;refine⟨.value v',w,ρ,?_,.inl ⟨_,rfl,hv⟩,Post.same hm _ _⟩;simp[execOp,hr]
  ·cases hchk
 ·rename_i t g g' cs;replace h:iK m n (gldV cs)=.ok v m' n' r wm:=h;have h0:=iJ h;clear h;obtain⟨h,rfl,rfl,rfl,rfl⟩:=h0;injection h with h
  subst h;simp only[No,beq_iff_eq]at hchk;obtain⟨⟨⟨⟨rfl,h1⟩,h2⟩,h3⟩,h4⟩:=hchk;refine⟨.value (.agg cs.toArray),w,ρ,?_,.inl ⟨_,rfl,kE ρ (by show cs.toArray.toList.all flat=true;simpa using h3)⟩,Post.same hm _ _⟩;have hr:=Kz (P:=P) h1 h2 hm (by simpa using h4);have he':a.eval (Operand.global g)=.pointer (some ⟨g,0,none⟩):=rfl;simp[execOp,he',hr]
 ·cases hchk
end
section
variable{μ:Type}[AMem μ]{P:SZ}
structure Loc(m:μ)(n:Nat)(m':μ)(n' W:Nat):Prop where
 num:n<=n'
 same:∀b,W.testBit b=false->AMem.get m' b=AMem.get m b
 made:∀b,n<=b->b<n'->W.testBit b=true
theorem Loc.refl(m:μ)(n:Nat):Loc m n m n 0:=⟨IN _,λ_ _=>rfl,λb h1 h2=>by omega⟩
theorem Loc.trans{m m1 m2:μ}{n n1 n2 w1 w2:Nat}(h:Loc m n m1 n1 w1)(k:Loc m1 n1 m2 n2 w2):Loc m n m2 n2 (OF w1 w2):=
 ⟨Nat.le_trans h.num k.num,λb hb=>by
  rw[gv,Bool.or_eq_false_iff]at hb
  rw[k.same b hb.2,h.same b hb.1],λb h1 h2=>by
  rw[gv];by_cases hb:b<n1
  ·rw[h.made b h1 hb];rfl
  ·rw[k.made b (by omega) h2];simp⟩
theorem xu{m:μ}{n b:Nat}(x:Option Blk)(hl:AMem.lim m b=true):Loc m n (If m b x) n (bit b):=⟨IN _,λk hk=>by rw[AMem.get_put m b k x hl,if_neg];intro e;subst e;rw[gx]at hk;simp at hk,λk h1 h2=>by omega⟩
theorem qk{m:μ}{n:Nat}(x:Option Blk)(hl:AMem.lim m n=true):Loc m n (If m n x) (Nat.succ n) (bit n):=
 ⟨Nat.le_succ _,λk hk=>by rw[AMem.get_put m n k x hl,if_neg];intro e;subst e;rw[gx]at hk;simp at hk,λk h1 h2=>by
  have:k=n:=by omega
  subst this;rw[gx];simp⟩
theorem pD{m m':μ}{n n' r wm:Nat}{O:Blk}{f:Nat->AT}{v:AT}(h:nD m n O f=.ok v m' n' r wm):Loc m n m' n' wm:=by
 unfold nD at h;cases hl:AMem.lim m n
 ·rw[hl,cond_false]at h;cases h
 ·rw[hl,cond_true]at h;injection h with e1 e2 e3 e4 e5;subst e2 e3 e5;exact qk _ hl
theorem jh{m m':μ}{n n' r wm:Nat}{x:Option AT}{v:AT}(h:iK m n x=.ok v m' n' r wm):Loc m n m' n' wm:=by obtain⟨_,rfl,rfl,_,rfl⟩:=iJ h;exact Loc.refl _ _
theorem pu{m m':μ}{n n' r wm b:Nat}{x:Option AT}{v:AT}(h:py m n b x=.ok v m' n' r wm):Loc m n m' n' wm:=by obtain⟨_,rfl,rfl,_,rfl⟩:=xf h;exact Loc.refl _ _
omit [AMem μ] in
theorem pT{B:Option Blk}{f:List AT->OR μ}{v:AT}{m':μ}{n' r wm:Nat}(h:mJ B f=.ok v m' n' r wm):∃c,f c=.ok v m' n' r wm:=by
 cases B with
 |none=>cases h
 |some B=>cases B with
  |cells c sz opn wr=>exact⟨c,h⟩
  |map es=>cases h
theorem yQ{m m':μ}{n n' r r0 wm b sz:Nat}{opn:Bool}{v0 v:AT}{c:Option (List AT)}(hb:AMem.lim m b=true)(h:tJ m n b sz opn v0 r0 c=.ok v m' n' r wm):Loc m n m' n' wm:=by
 unfold tJ at h;split at h
 ·injection h with e1 e2 e3 e4 e5;subst e2 e3 e5;exact xu _ hb
 ·cases h
theorem Fw{m m':μ}{n n' r r0 wm sz len:Nat}{c:List AT}{v:AT}(h:zT m n sz len c r0=.ok v m' n' r wm):Loc m n m' n' wm:=by
 unfold zT at h;cases hl:AMem.lim m n
 ·rw[hl,cond_false]at h;cases h
 ·rw[hl,cond_true]at h;injection h with e1 e2 e3 e4 e5;subst e2 e3 e5;exact qk _ hl
theorem DK{m m':μ}{n n' r wm b:Nat}{v:AT}{es:Option (List (AT×AT))}(hb:AMem.lim m b=true)(h:Ai m n b es=.ok v m' n' r wm):Loc m n m' n' wm:=by
 unfold Ai at h;split at h
 ·injection h with e1 e2 e3 e4 e5;subst e2 e3 e5;exact xu _ hb
 ·cases h
omit [AMem μ] in
theorem EO{c:Bool}{x:OR μ}{v:AT}{m':μ}{n' r w:Nat}(h:cond c x .no=.ok v m' n' r w):x=.ok v m' n' r w:=by
 cases c
 ·cases h
 ·exact h
theorem Oh{m m':μ}{n n' r wm sz:Nat}{v x y:AT}{p:Option (List AT×Nat)}(h:EG sz m n p x y=.ok v m' n' r wm):Loc m n m' n' wm:=by
 unfold EG at h;split at h
 ·split at h
  ·replace h:=EO h;unfold Oi at h;split at h
   ·rename_i hg;replace h:=EO h;exact yQ (AMem.get_lim _ _ _ (gW hg).2) h
   ·cases h
  ·cases h
 ·cases h
theorem Nv{m m':μ}{n n' r wm:Nat}{v:AT}{op:MOp}{xs:List AT}(h:lu P op xs m n=.ok v m' n' r wm):Loc m n m' n' wm:=by
 unfold lu at h;split at h
 ·exact pD h
 ·rename_i kt z ok x k;cases hf:gy k
  ·rw[hf,cond_false]at h;cases h
  ·rw[hf,cond_true]at h;split at h
   ·exact jh h
   ·unfold A' at h;split at h
    ·exact pu h
    ·cases h
   ·cases h
 ·rename_i kt x k y;cases hf:gy k
  ·rw[hf,cond_false]at h;cases h
  ·rw[hf,cond_true]at h;split at h
   ·unfold JA at h;split at h
    ·rename_i hg;exact DK (AMem.get_lim _ _ _ (gW hg).2) h
    ·cases h
   ·cases h
 ·rename_i kt x k;cases hf:gy k
  ·rw[hf,cond_false]at h;cases h
  ·rw[hf,cond_true]at h;split at h
   ·unfold KQ at h;split at h
    ·rename_i hg;exact DK (AMem.get_lim _ _ _ (gW hg).2) h
    ·cases h
   ·cases h
 ·split at h
  ·unfold kN at h;split at h
   ·rename_i c sz opn wr hg;cases hz:SF sz 1
    ·rw[hz]at h;cases h
    ·rw[hz]at h;exact pu h
   ·cases h
  ·cases h
 ·exact Oh h
 ·split at h
  ·exact jh h
  ·unfold Ki at h;split at h
   ·exact pu h
   ·cases h
  ·cases h
 ·split at h
  ·exact pD h
  ·cases h
 ·exact jh h
 ·cases h
theorem ud{e:List AT}{m m':μ}{n n' r wm:Nat}{v:AT}{rec:Nat->List AT->μ->Nat->OR μ}{x:AOp}(hrec:∀f args m n v m' n' r wm,rec f args m n=.ok v m' n' r wm->Loc m n m' n' wm)
  (h:gV P rec e m n x=.ok v m' n' r wm):Loc m n m' n' wm:=by
 cases x with
 |mov x=>injection h with e1 e2 e3 e4 e5;subst e2 e3 e5;exact Loc.refl _ _
 |func f a c=>injection h with e1 e2 e3 e4 e5;subst e2 e3 e5;exact Loc.refl _ _
 |pick c a b=>exact jh h
 |bin op t x y=>exact jh h
 |una op x=>exact jh h
 |conv k x=>exact jh h
 |fld off x=>exact jh h
 |idx sz x i=>exact jh h
 |ida k sz x i=>exact jh h
 |build z ps=>exact jh h
 |extr i x=>exact jh h
 |nilck x=>exact jh h
 |len s x=>exact jh h
 |mx x y=>exact jh h
 |pur op xs=>exact jh h
 |mp op xs=>exact Nv h
 |slc sz x lo hi=>
  replace h:wV m n sz (wU sz (oev e lo) (oev e hi) (ev e x)) (ev e x)=.ok v m' n' r wm:=h;unfold wV at h;split at h
  ·rename_i b o ln c hx;cases hc:SF c UNK
   ·rw[hc,cond_false]at h;exact jh h
   ·rw[hc,cond_true]at h;cases hz:BJ sz (jc m n b)
    ·rw[hz,cond_false]at h;cases h
    ·rw[hz,cond_true]at h;exact pu h
  ·exact jh h
 |new c=>exact pD h
 |box x=>exact pD h
 |mkl sz len z ps=>
  replace h:D4 m n sz len (ou (mO sz e ps) (pY z len))=.ok v m' n' r wm:=h;unfold D4 at h;split at h
  ·exact pD h
  ·cases h
 |make sz bytes z l c=>
  replace h:wy sz bytes z m n (iB (ev e l)) (iB (ev e c))=.ok v m' n' r wm:=h;unfold wy at h;split at h
  ·rename_i l1 c1 _ _;cases hb:(Tj l1 c1&&Tj (Vu c1 bytes) 281474976710656&&Tj c1 1099511627776)
   ·rw[hb,cond_false]at h;cases h
   ·rw[hb,cond_true]at h;exact pD h
  ·cases h
 |ld1 x=>
  replace h:Ak m n (ev e x)=.ok v m' n' r wm:=h;unfold Ak at h;split at h
  ·obtain⟨c,h⟩:=pT h;exact pu h
  ·cases h
 |ldn k x=>
  replace h:Aj k m n (ev e x)=.ok v m' n' r wm:=h;unfold Aj at h;split at h
  ·obtain⟨c,h⟩:=pT h;exact pu h
  ·cases h
 |st k x y=>
  replace h:stV k (ev e y).cells.toList m n (ev e x)=.ok v m' n' r wm:=h;unfold stV at h;split at h
  ·rename_i b o hx;cases hc:(SF (kO (ev e y).cells.toList) k&&(ev e y).cells.toList.all one)
   ·rw[hc,cond_false]at h;cases h
   ·rw[hc,cond_true]at h;unfold stC at h;split at h
    ·rename_i hg;exact yQ (AMem.get_lim _ _ _ (gW hg).2) h
    ·cases h
  ·cases h
 |app sz bytes x y=>
  replace h:nl sz bytes m n (ev e x) (ev e y) (shown m n sz (ev e x)) (shown m n sz (ev e y))=.ok v m' n' r wm:=h;unfold nl at h;split at h
  ·rename_i a b _ _;unfold HP at h;split at h
   ·rename_i ax lx cx ay ly cy hx hy;cases hc:(b.1.all one&&Te 0 sz&&Te 0 bytes&&Tj (Vu (U8 lx ly) bytes) 140737488355328)
    ·rw[hc,cond_false]at h;cases h
    ·rw[hc,cond_true]at h;unfold xd at h;split at h
     ·cases hl:SF ly 0
      ·rw[hl,cond_false]at h;exact Fw h
      ·rw[hl,cond_true]at h;injection h with e1 e2 e3 e4 e5;subst e2 e3 e5;exact Loc.refl _ _
     ·rename_i bx ox;cases hv:SF cx VAG
      ·rw[hv,cond_false]at h;cases hu:SF cx UNK
       ·rw[hu,cond_false]at h;cases hl:Tj (U8 lx ly) cx
        ·rw[hl,cond_false]at h;exact Fw h
        ·rw[hl,cond_true]at h;unfold LD at h;split at h
         ·rename_i hg;exact yQ (AMem.get_lim _ _ _ (gW hg).2) h
         ·cases h
       ·rw[hu,cond_true]at h;unfold wZ at h;split at h
        ·rename_i c s hg;cases hl:(AMem.lim m n&&SF s sz)
         ·rw[hl,cond_false]at h;cases h
         ·rw[hl,cond_true]at h;injection h with e1 e2 e3 e4 e5;subst e2 e3 e5
          rw[No]at hl;exact(xu _ (AMem.get_lim _ _ _ (gW hg).2)).trans (qk _ (by rw[AMem.lim_put];exact hl.1))
        ·cases h
      ·rw[hv,cond_true]at h;cases h
     ·cases h
   ·cases h
  ·cases h
 |call f args=>exact hrec _ _ _ _ _ _ _ _ _ h
 |callv x args=>
  replace h:oC rec (evs e args) m n (ev e x)=.ok v m' n' r wm:=h;unfold oC at h;split at h
  ·exact hrec _ _ _ _ _ _ _ _ _ h
  ·cases h
omit [AMem μ] in
theorem us{x:OR μ}{f:AT->μ->Nat->Nat->Nat->CR μ}{X:AX}{e':List AT}{m':μ}{n' r wm:Nat}(h:kS x f=.ok X e' m' n' r wm):∃v m1 n1 r1 w1,x=.ok v m1 n1 r1 w1/\f v m1 n1 r1 w1=.ok X e' m' n' r wm:=by
 cases x with
 |no=>cases h
 |ok v m1 n1 r1 w1=>exact⟨v,m1,n1,r1,w1,rfl,h⟩
omit [AMem μ] in
theorem jU{x:CR μ}{f:AX->List AT->μ->Nat->Nat->Nat->CR μ}{X:AX}{e':List AT}{m':μ}{n' r wm:Nat}(h:kq x f=.ok X e' m' n' r wm):∃X1 e1 m1 n1 r1 w1,x=.ok X1 e1 m1 n1 r1 w1/\f X1 e1 m1 n1 r1 w1=.ok X e' m' n' r wm:=by
 cases x with
 |no=>cases h
 |ok v e1 m1 n1 r1 w1=>exact⟨v,e1,m1,n1,r1,w1,rfl,h⟩
omit [AMem μ] in
theorem pO{X:AX}{e e':List AT}{m m':μ}{n n' r r' wm wm':Nat}(h:wE e m n r wm=.ok X e' m' n' r' wm'):X=.norm/\e'=e/\m'=m/\n'=n/\r'=r/\wm'=wm:=by unfold wE at h;rw[gX,gX]at h;injection h with e1 e2 e3 e4 e5 e6;exact⟨e1.symm,e2.symm,e3.symm,e4.symm,e5.symm,e6.symm⟩
theorem jZ(a b c:Nat):OF (OF a b) c=OF a (OF b c):=Nat.or_assoc a b c
theorem ju(a:Nat):OF a 0=a:=Nat.or_zero a
theorem j'(a:Nat):OF 0 a=a:=Nat.zero_or a
theorem yV{rec:Nat->List AT->μ->Nat->OR μ}(hrec:∀f args m n v m' n' r wm,rec f args m n=.ok v m' n' r wm->Loc m n m' n' wm):
  ∀(l:List AI) (e:List AT) (m:μ) (n r0 w0:Nat) (X:AX) (e':List AT) (m':μ) (n' r wm:Nat),lj P rec l e m n r0 w0=.ok X e' m' n' r wm->
   ∃r1 w1,r=OF r0 r1/\wm=OF w0 w1/\Loc m n m' n' w1
 |[],e,m,n,r0,w0,X,e',m',n',r,wm,h=>by obtain⟨_,_,rfl,rfl,rfl,rfl⟩:=pO h;exact⟨0,0,(ju _).symm,(ju _).symm,Loc.refl _ _⟩
 |i::l,e,m,n,r0,w0,X,e',m',n',r,wm,h=>by
  have ih:=yV hrec l;have step:∀{o:AOp} {e2:AT->List AT},(kS (gV P rec e m n o) λv m n r' w'=>lj P rec l (e2 v) m n (OF r0 r') (OF w0 w'))=.ok X e' m' n' r wm->∃r1 w1,r=OF r0 r1/\wm=OF w0 w1/\Loc m n m' n' w1:=by intro o e2 h;obtain⟨v,m1,n1,r1,w1,h1,h2⟩:=us h;have l1:=ud hrec h1;obtain⟨r2,w2,rfl,rfl,l2⟩:=ih _ _ _ _ _ _ _ _ _ _ _ h2;exact⟨OF r1 r2,OF w1 w2,jZ _ _ _,jZ _ _ _,l1.trans l2⟩
  cases i with
  |nop i=>exact ih _ _ _ _ _ _ _ _ _ _ _ h
  |op o=>exact step (e2:=λv=>v::e) h
  |opg o gi gw=>
   replace h:cond (ia gw (iA e gi)) (kS (gV P rec e m n o) λv m n r' w'=>lj P rec l (v::e) m n (OF r0 r') (OF w0 w')) (lj P rec l (undef::e) m n r0 w0)=.ok X e' m' n' r wm:=h;cases hw:ia gw (iA e gi)
   ·rw[hw,cond_false]at h;exact ih _ _ _ _ _ _ _ _ _ _ _ h
   ·rw[hw,cond_true]at h;exact step (e2:=λv=>v::e) h
  |eff o=>exact step (e2:=λ_=>e) h
  |effg o gi gw=>
   replace h:cond (ia gw (iA e gi)) (kS (gV P rec e m n o) λv m n r' w'=>lj P rec l e m n (OF r0 r') (OF w0 w')) (lj P rec l e m n r0 w0)=.ok X e' m' n' r wm:=h;cases hw:ia gw (iA e gi)
   ·rw[hw,cond_false]at h;exact ih _ _ _ _ _ _ _ _ _ _ _ h
   ·rw[hw,cond_true]at h;exact step (e2:=λ_=>e) h
omit [AMem μ] in
theorem Gq{bef k:Nat}{done:List (Nat×Nat×Nat)}{x:OR μ}{f:AT->μ->Nat->Nat->Nat->List (Nat×Nat×Nat)->CR μ}{X:AX}{e':List AT}{m':μ}{n' r wm:Nat}(h:okD bef k done x f=.ok X e' m' n' r wm):
  ∃v m1 n1 r1 w1,x=.ok v m1 n1 r1 w1/\((OF r1 w1=0/\f v m1 n1 r1 w1 done=.ok X e' m' n' r wm)\/(apart bef r1 w1 done=true/\f v m1 n1 r1 w1 ((k,r1,w1)::done)=.ok X e' m' n' r wm)):=by
 obtain⟨v,m1,n1,r1,w1,h1,h2⟩:=us h;rw[gX,gX]at h2;refine⟨v,m1,n1,r1,w1,h1,?_⟩;cases hb:SF (OF r1 w1) 0
 ·rw[hb,cond_false]at h2;cases ha:apart bef r1 w1 done
  ·rw[ha,cond_false]at h2;cases h2
  ·rw[ha,cond_true]at h2;exact .inr ⟨rfl,h2⟩
 ·rw[hb,cond_true]at h2;exact .inl ⟨SG hb,h2⟩
theorem yw{rec:Nat->List AT->μ->Nat->OR μ}{e:List AT}{m m':μ}{n n' r wm:Nat}{v:AT}{x:AOp}(h:iQ P rec e m n x=.ok v m' n' r wm):oG n e x=true/\gV P rec e m n x=.ok v m' n' r wm:=by
 unfold iQ at h;cases hb:oG n e x
 ·rw[hb,cond_false]at h;cases h
 ·rw[hb,cond_true]at h;exact⟨rfl,h⟩
theorem DU{rec:Nat->List AT->μ->Nat->OR μ}(hrec:∀f args m n v m' n' r wm,rec f args m n=.ok v m' n' r wm->Loc m n m' n' wm):
  ∀(l:List AI) (bs:List Nat) (k:Nat) (done:List (Nat×Nat×Nat)) (e:List AT) (m:μ) (n r0 w0:Nat) (X:AX) (e':List AT) (m':μ) (n' r wm:Nat),jY P rec l bs k done e m n r0 w0=.ok X e' m' n' r wm->
   ∃r1 w1,r=OF r0 r1/\wm=OF w0 w1/\Loc m n m' n' w1
 |[],bs,k,done,e,m,n,r0,w0,X,e',m',n',r,wm,h=>by obtain⟨_,_,rfl,rfl,rfl,rfl⟩:=pO h;exact⟨0,0,(ju _).symm,(ju _).symm,Loc.refl _ _⟩
 |i::l,bs,k,done,e,m,n,r0,w0,X,e',m',n',r,wm,h=>by
  have ih:=DU hrec l
  have step:∀{o:AOp} {e2:AT->List AT},(okD (bs.headD 0) k done (iQ P rec e m n o) λv m n r' w' done=>jY P rec l bs.tail (Nat.succ k) done (e2 v) m n (OF r0 r') (OF w0 w'))=.ok X e' m' n' r wm->∃r1 w1,r=OF r0 r1/\wm=OF w0 w1/\Loc m n m' n' w1:=by
   intro o e2 h;obtain⟨v,m1,n1,r1,w1,h1,h2⟩:=Gq h;have l1:=ud hrec (yw h1).2;rcases h2 with⟨_,h2⟩|⟨_,h2⟩
   all_goals
    obtain⟨r2,w2,rfl,rfl,l2⟩:=ih _ _ _ _ _ _ _ _ _ _ _ _ _ _ h2;exact⟨OF r1 r2,OF w1 w2,jZ _ _ _,jZ _ _ _,l1.trans l2⟩
  cases i with
  |nop i=>exact ih _ _ _ _ _ _ _ _ _ _ _ _ _ _ h
  |op o=>exact step (e2:=λv=>v::e) h
  |opg o gi gw=>
   replace h:cond (ia gw (iA e gi)) (okD (bs.headD 0) k done (iQ P rec e m n o) λv m n r' w' done=>jY P rec l bs.tail (Nat.succ k) done (v::e) m n (OF r0 r') (OF w0 w')) (jY P rec l bs.tail (Nat.succ k) done (undef::e) m n r0 w0)=.ok X e' m' n' r wm:=h;cases hw:ia gw (iA e gi)
   ·rw[hw,cond_false]at h;exact ih _ _ _ _ _ _ _ _ _ _ _ _ _ _ h
   ·rw[hw,cond_true]at h;exact step (e2:=λv=>v::e) h
  |eff o=>exact step (e2:=λ_=>e) h
  |effg o gi gw=>
   replace h:cond (ia gw (iA e gi)) (okD (bs.headD 0) k done (iQ P rec e m n o) λv m n r' w' done=>jY P rec l bs.tail (Nat.succ k) done e m n (OF r0 r') (OF w0 w')) (jY P rec l bs.tail (Nat.succ k) done e m n r0 w0)=.ok X e' m' n' r wm:=h;cases hw:ia gw (iA e gi)
   ·rw[hw,cond_false]at h;exact ih _ _ _ _ _ _ _ _ _ _ _ _ _ _ h
   ·rw[hw,cond_true]at h;exact step (e2:=λ_=>e) h
theorem qp{m0 m m':μ}{n0 n n' r r0 w0 wm:Nat}{v0 v:AT}(h0:Loc m0 n0 m n w0)(h:iI m0 n0 v0 m n r0 w0=.ok v m' n' r wm):Loc m0 n0 m' n' wm:=by
 unfold iI at h;cases hb:(gy v0&&SF (Nat.mod w0 (bit n0)) 0)
 ·rw[hb,cond_false]at h;injection h with e1 e2 e3 e4 e5;subst e2 e3 e5;exact h0
 ·rw[hb,cond_true,gX]at h;injection h with e1 e2 e3 e4 e5;subst e2 e3 e5;exact Loc.refl _ _
theorem uT{E:Nat->Option AFn}{Y:Nat->List AT->μ->Nat->OR μ}(hY:∀f args m n v m' n' r wm,Y f args m n=.ok v m' n' r wm->Loc m n m' n' wm){rec:AC->List AT->μ->Nat->CR μ}(hrec:∀c e m n X e' m' n' r wm,rec c e m n=.ok X e' m' n' r wm->Loc m n m' n' wm)
  {f:Nat} {args:List AT} {m m':μ} {n n' r wm:Nat} {v:AT} (h:im E Y rec f args m n=.ok v m' n' r wm):Loc m n m' n' wm:=by
 unfold im at h
 cases hE:E f with
 |none=>rw[hE]at h;exact hY _ _ _ _ _ _ _ _ _ h
 |some fn=>
  rw[hE]at h;replace h:pR rec args m n fn=.ok v m' n' r wm:=h;unfold pR at h;cases hl:SF (kO args) fn.na
  ·rw[hl,cond_false]at h;cases h
  ·rw[hl,cond_true]at h
   cases hr:rec fn.code args m n with
   |no=>rw[hr]at h;cases h
   |ok X e1 m1 n1 r1 w1=>
    rw[hr]at h;replace h:lZ fn m n e1 m1 n1 r1 w1 X=.ok v m' n' r wm:=h;have l1:=hrec _ _ _ _ _ _ _ _ _ _ hr;unfold lZ at h;split at h
    ·unfold vH at h;split at h
     ·exact qp l1 h
     ·cases h
    ·exact qp l1 h
    ·cases h
omit [AMem μ] in
theorem zV{x:CR μ}{r0 w0:Nat}{X:AX}{e':List AT}{m':μ}{n' r wm:Nat}(h:lH r0 w0 x=.ok X e' m' n' r wm):∃r1 w1,x=.ok X e' m' n' r1 w1/\r=OF r0 r1/\wm=OF w0 w1:=by
 unfold lH at h;split at h
 ·injection h with e1 e2 e3 e4 e5 e6;subst e1 e2;subst e3 e4;subst e5 e6;exact⟨_,_,rfl,rfl,rfl⟩
 ·cases h
theorem jS{E:Nat->Option AFn}{Y:Nat->List AT->μ->Nat->OR μ}(hY:∀f args m n v m' n' r wm,Y f args m n=.ok v m' n' r wm->Loc m n m' n' wm):∀(k:Nat) (c:AC) (e:List AT) (m:μ) (n:Nat) (X:AX) (e':List AT) (m':μ) (n' r wm:Nat),exec P E Y k c e m n=.ok X e' m' n' r wm->Loc m n m' n' wm
 |0,c,e,m,n,X,e',m',n',r,wm,h=>by cases h
 |k+1,c,e,m,n,X,e',m',n',r,wm,h=>by
  have ih:=jS (E:=E) (Y:=Y) hY k;replace h:IM P E Y (exec P E Y k) c e m n=.ok X e' m' n' r wm:=h
  have norm:∀{f:List AT->μ->Nat->CR μ} {X1:AX} {e1:List AT} {m1:μ} {n1 r1 w1:Nat},Loc m n m1 n1 w1->(∀e m n X e' m' n' r wm,f e m n=.ok X e' m' n' r wm->Loc m n m' n' wm)->ke f X1 e1 m1 n1 r1 w1=.ok X e' m' n' r wm->Loc m n m' n' wm:=by
   intro f X1 e1 m1 n1 r1 w1 l1 hf h;unfold ke at h;split at h
   ·obtain⟨r2,w2,h2,rfl,rfl⟩:=zV h;exact l1.trans (hf _ _ _ _ _ _ _ _ _ h2)
   ·injection h with e1 e2 e3 e4 e5 e6;subst e3 e4 e6;exact l1
  cases c with
  |skip=>injection h with e1 e2 e3 e4 e5 e6;subst e3 e4 e6;exact Loc.refl _ _
  |reg l=>obtain⟨r1,w1,_,rfl,l1⟩:=yV (P:=P) (λf args m n v m' n' r wm h=>uT hY ih h) l _ _ _ _ _ _ _ _ _ _ _ h;rw[j'];exact l1
  |regD l bs=>obtain⟨r1,w1,_,rfl,l1⟩:=DU (P:=P) (λf args m n v m' n' r wm h=>uT hY ih h) l _ _ _ _ _ _ _ _ _ _ _ _ _ _ h;rw[j'];exact l1
  |seq a b=>obtain⟨X1,e1,m1,n1,r1,w1,h1,h2⟩:=jU h;exact norm (ih _ _ _ _ _ _ _ _ _ _ h1) (λ_ _ _ _ _ _ _ _ _ h=>ih _ _ _ _ _ _ _ _ _ _ h) h2
  |cond x a b=>
   replace h:lJ (exec P E Y k a e m n) (exec P E Y k b e m n) (ev e x)=.ok X e' m' n' r wm:=h;unfold lJ at h;split at h
   ·rename_i t _;cases t
    ·exact ih _ _ _ _ _ _ _ _ _ _ h
    ·exact ih _ _ _ _ _ _ _ _ _ _ h
   ·cases h
  |block id sh b=>
   obtain⟨X1,e1,m1,n1,r1,w1,h1,h2⟩:=jU h;have l1:=ih _ _ _ _ _ _ _ _ _ _ h1;unfold oR at h2;split at h2
   ·rename_i i;cases hi:SF i id
    ·rw[hi,cond_false]at h2;injection h2 with e1 e2 e3 e4 e5 e6;subst e3 e4 e6;exact l1
    ·rw[hi,cond_true]at h2;injection h2 with e1 e2 e3 e4 e5 e6;subst e3 e4 e6;exact l1
   ·injection h2 with e1 e2 e3 e4 e5 e6;subst e3 e4 e6;exact l1
  |loop sh b=>obtain⟨X1,e1,m1,n1,r1,w1,h1,h2⟩:=jU h;exact norm (ih _ _ _ _ _ _ _ _ _ _ h1) (λ_ _ _ _ _ _ _ _ _ h=>ih _ _ _ _ _ _ _ _ _ _ h) h2
  |pre sel d c=>exact ih _ _ _ _ _ _ _ _ _ _ h
  |post c sel d=>
   obtain⟨X1,e1,m1,n1,r1,w1,h1,h2⟩:=jU h;have l1:=ih _ _ _ _ _ _ _ _ _ _ h1;unfold rz at h2;split at h2
   ·injection h2 with e1 e2 e3 e4 e5 e6;subst e3 e4 e6;exact l1
   ·injection h2 with e1 e2 e3 e4 e5 e6;subst e3 e4 e6;exact l1
  |exit id=>injection h with e1 e2 e3 e4 e5 e6;subst e3 e4 e6;exact Loc.refl _ _
  |ret rs=>
   replace h:tA e m n (pX e m n rs)=.ok X e' m' n' r wm:=h;unfold tA at h;split at h
   ·injection h with e1 e2 e3 e4 e5 e6;subst e3 e4 e6;exact Loc.refl _ _
   ·cases h
end
def tI(d:Nat)(Γ:Ctx):Ctx:=Γ.map λl=>l.filter λt=>!Nat.beq t d
def CS(d:Nat):Ctx->Nat->Ctx
 |[],_=>[]
 |l::Γ,0=>(d::l)::Γ
 |l::Γ,i+1=>l::CS d Γ i
def fixC(sel:List Nat)(d:Nat)(Γ:Ctx):Ctx:=sel.map (λi=>(Γ[i]?).getD [])++Γ.drop d
def leC:Ctx->Ctx->Bool
 |[],_=>true
 |l::ls,r::rs=>l.all (λt=>r.any (SF t))&&leC ls rs
 |_::_,[]=>false
def D7:Ctx->Ctx->Ctx
 |l::ls,r::rs=>l.filter (λt=>r.any (SF t))::D7 ls rs
 |_,_=>[]
def acH:Option Ctx->Option Ctx->Option Ctx
 |some a,some b=>some (D7 a b)
 |some a,none=>some a
 |none,b=>b
def A9:List (Nat×Ctx)->Nat->Option Ctx
 |[],_=>none
 |(i,Γ)::l,id=>cond (SF i id) (some Γ) (A9 l id)
theorem any_beq{l:List Nat}{t:Nat}:l.any (SF t)=true↔t∈l:=by rw[List.any_eq_true];exact⟨λ⟨x,hx,h⟩=>by rw[SG h];exact hx,λh=>⟨t,h,by simp⟩⟩
theorem iU{Γ:Ctx}{i t:Nat}:named Γ i t=true↔∃l,Γ[i]?=some l/\t∈l:=by
 unfold named;split
 ·rename_i l hl;rw[any_beq,hl];exact⟨λh=>⟨l,rfl,h⟩,λ⟨l',h1,h2⟩=>by injection h1 with h1;subst h1;exact h2⟩
 ·rename_i hl;rw[hl];simp
theorem nO{d:Nat}{Γ:Ctx}{i t:Nat}(h:named (tI d Γ) i t=true):named Γ i t=true/\t≠d:=by obtain⟨l,h1,h2⟩:=iU.1 h;simp only[tI,To,Option.map_eq_some_iff]at h1;obtain⟨l',h1,rfl⟩:=h1;rw[TY]at h2;exact⟨iU.2 ⟨l',h1,h2.1⟩,by intro e;subst e;simp at h2⟩
theorem sW{d:Nat}:∀{Γ:Ctx} {i j t:Nat},named (CS d Γ i) j t=true->named Γ j t=true\/(j=i/\t=d)
 |[],_,_,_,h=>by simp[CS,named]at h
 |l::Γ,0,j,t,h=>by
  obtain⟨l',h1,h2⟩:=iU.1 h
  cases j with
  |zero=>
   have h1:some (d::l)=some l':=h1;injection h1 with h1;subst h1
   rcases List.mem_cons.1 h2 with rfl|h2
   ·exact .inr ⟨rfl,rfl⟩
   ·exact .inl (iU.2 ⟨l,rfl,h2⟩)
  |succ j=>exact .inl (iU.2 ⟨l',h1,h2⟩)
 |l::Γ,i+1,j,t,h=>by
  cases j with
  |zero=>exact .inl h
  |succ j=>
   rcases sW (Γ:=Γ) (i:=i) (j:=j) (t:=t) h with h|⟨rfl,rfl⟩
   ·exact .inl h
   ·exact .inr ⟨rfl,rfl⟩
theorem D3:∀{Γ Γ':Ctx} {i t:Nat},leC Γ Γ'=true->named Γ i t=true->named Γ' i t=true
 |[],_,_,_,_,h=>by simp[named]at h
 |l::ls,[],_,_,h,_=>by cases h
 |l::ls,r::rs,i,t,h,hn=>by
  simp only[leC,No,Tv]at h
  cases i with
  |zero=>have hn:l.any (SF t)=true:=hn;exact h.1 t (any_beq.1 hn)
  |succ i=>exact D3 (i:=i) h.2 hn
theorem tM:∀{Γ Γ':Ctx} {i t:Nat},named (D7 Γ Γ') i t=true->named Γ i t=true/\named Γ' i t=true
 |[],_,_,_,h=>by simp[D7,named]at h
 |_::_,[],_,_,h=>by simp[D7,named]at h
 |l::ls,r::rs,i,t,h=>by
  cases i with
  |zero=>
   obtain⟨l',h1,h2⟩:=iU.1 h;have h1:some (l.filter λt=>r.any (SF t))=some l':=h1;injection h1 with h1;subst h1
   rw[TY]at h2;exact⟨iU.2 ⟨l,rfl,h2.1⟩,iU.2 ⟨r,rfl,any_beq.1 h2.2⟩⟩
  |succ i=>exact tM (i:=i) h
section
variable{ρ:Ren}{Γ:Ctx}{e:List AT}{tmps:Array AT}
theorem gZ.push(h:gZ ρ Γ e tmps){d:Nat}{v v':AT}(hv:VRel ρ v v')(hd:d<tmps.size):gZ ρ ([d]::tI d Γ) (v::e) (tmps.setIfInBounds d v'):=by
 intro i t hn
 cases i with
 |zero=>
  have:t=d:=by obtain⟨l,h1,h2⟩:=iU.1 hn;have h1:some [d]=some l:=h1;injection h1 with h1;subst h1;simpa using h2
  subst this;exact⟨v,v',rfl,by simp[hd],hv⟩
 |succ i=>obtain⟨h1,h2⟩:=nO (i:=i) hn;obtain⟨x,y,a,b,c⟩:=h i t h1;exact⟨x,y,by simpa using a,by rw[Xl,if_neg (λe=>h2 e.symm)];exact b,c⟩
theorem gZ.alias(h:gZ ρ Γ e tmps){i t d:Nat}(hn:named Γ i t=true)(hd:d<tmps.size):gZ ρ (CS d (tI d Γ) i) e (tmps.setIfInBounds d (tmps.getD t undef)):=by
 intro j s hs;rcases sW hs with hs|⟨rfl,rfl⟩
 ·obtain⟨h1,h2⟩:=nO hs;obtain⟨x,y,a,b,c⟩:=h j s h1;exact⟨x,y,a,by rw[Xl,if_neg (λe=>h2 e.symm)];exact b,c⟩
 ·obtain⟨x,y,a,b,c⟩:=h j t hn;exact⟨x,y,a,by rw[Array.getElem?_setIfInBounds_self_of_lt hd,Array.getD_eq_getD_getElem?,b];rfl,c⟩
theorem gZ.le{Γ':Ctx}(h:gZ ρ Γ e tmps)(hl:leC Γ' Γ=true):gZ ρ Γ' e tmps:=λi t hn=>h i t (D3 hl hn)
theorem gZ.fix(h:gZ ρ Γ e tmps)(sel:List Nat)(d:Nat):gZ ρ (fixC sel d Γ) (Ek sel d e) tmps:=by
 intro i t hn;obtain⟨l,h1,h2⟩:=iU.1 hn;unfold Ek;rw[aaC,lR];unfold fixC at h1;rw[List.getElem?_append]at h1;split at h1
 ·rename_i hi;have hi:i<sel.length:=by simpa using hi
  simp only[To,SH hi,Option.map_some]at h1;injection h1 with h1
  cases hg:Γ[sel[i]]? with
  |none=>rw[hg]at h1;simp at h1;subst h1;simp at h2
  |some l'=>rw[hg]at h1;simp at h1;subst h1;obtain⟨x,y,a,b,c⟩:=h sel[i] t (iU.2 ⟨l',hg,h2⟩);refine⟨x,y,?_,b,c⟩;rw[TA (by simpa using hi)];simp only[To,SH hi,Option.map_some,ux,a];rfl
 ·rename_i hi;have hi:sel.length<=i:=by simpa using hi
  simp only[List.length_map,List.getElem?_drop]at h1;obtain⟨x,y,a,b,c⟩:=h _ t (iU.2 ⟨l,h1,h2⟩);exact⟨x,y,by rw[UL (by simpa using hi)];simpa using a,b,c⟩
end
section
variable(P:SZ)(nt:Nat)(res:Array ResultVar)
def uP(ops:Array Oper)(Γ:Ctx)(o:Oper):AI->Option Ctx
 | .nop i=>match o.guard,o.dst,o.op with
  |none,some d,.move (.tmp t)=>cond (named Γ i t&&Te d nt) (some (CS d (tI d Γ) i)) none
  |none,some d,.assign (.tmp t)=>cond (named Γ i t&&Te d nt) (some (CS d (tI d Γ) i)) none
  |_,_,_=>none
 | .op x=>match o.guard,o.dst with
  |none,some d=>cond (jI P Γ o.op x&&Te d nt) (some ([d]::tI d Γ)) none
  |_,_=>none
 | .opg x gi gw=>match o.guard,o.dst with
  |some (j,w),some d=>match(ops[j]?).bind (·.dst)with
   |some g=>cond (jI P Γ o.op x&&Te d nt&&w==gw&&named Γ gi g) (some ([d]::tI d Γ)) none
   |none=>none
  |_,_=>none
 | .eff x=>match o.guard,o.dst with
  |none,none=>cond (jI P Γ o.op x) (some Γ) none
  |_,_=>none
 | .effg x gi gw=>match o.guard,o.dst with
  |some (j,w),none=>match(ops[j]?).bind (·.dst)with
   |some g=>cond (jI P Γ o.op x&&w==gw&&named Γ gi g) (some Γ) none
   |none=>none
  |_,_=>none
def rN(ops:Array Oper):List Oper->Ctx->List AI->Option Ctx
 |[],Γ,[]=>some Γ
 |o::os,Γ,i::is=>match uP P nt ops Γ o i with
  |some Γ=>rN ops os Γ is
  |none=>none
 |_,_,_=>none
def mG(Γ:Ctx):List ResultVar->List ROp->Bool
 |[],[]=>true
 | .tmp t::asl,.v i::bs=>named Γ i t&&mG Γ asl bs
 | .cell a t::asl,.cell i::bs=>named Γ i a&&(mB P t==some false)&&mG Γ asl bs
 | .cell a t::asl,.cells i n::bs=>named Γ i a&&(mB P t==some true)&&pn P t n&&mG Γ asl bs
 |_,_=>false
def wN(acc:List Nat):List Edge->Nat
 |[]=>0
 |e::es=>cond (Ud .any e) (OF (OF (bit e.on) (acc.getD e.on 0)) (wN acc es)) (wN acc es)
def Fq(acc:List Nat):List Oper->List Nat
 |[]=>acc
 |o::os=>oq (wN acc o.after.toList) λb=>Fq (acc++[b]) os
def looks(ops:Array Oper)(o:Oper):List Nat:=(o.op.operands.toList.filterMap fun | .tmp t=>some t|_=>none)++(match o.guard with|some (g,_)=>((ops[g]?).bind (·.dst)).toList|none=>[])
def pA(ops:Array Oper)(x y:Oper):Bool:=
 (match x.dst with|some d=>!((looks ops y).any (SF d))&&(match y.dst with|some d'=>!(SF d' d)|none=>true)|none=>true) &&
 (match y.dst with|some d=>!((looks ops x).any (SF d))|none=>true)
def xk(ops:Array Oper)(y:Oper)(b:Nat):List Oper->Nat->Bool
 |[],_=>true
 |x::xs,i=>(Nat.testBit b i || pA ops x y)&&xk ops y b xs (i+1)
def rq(ops:Array Oper)(done:List Oper):List Oper->List Nat->Nat->Bool
 |[],[],_=>true
 |y::ys,b::bs,k=>(y.after.toList.all λe=>!(Ud .any e) || Te e.on k)&&(match y.op with | .select _ _=>false|_=>true)&&xk ops y b done 0&&rq ops (done++[y]) ys bs (k+1)
 |_,_,_=>false
def Cs:List Nat->List Nat->Bool
 |[],[]=>true
 |a::asl,b::bs=>SF a b&&Cs asl bs
 |_,_=>false
def ur(ops:Array Oper)(bs:List Nat):Bool:=Cs (Fq [] ops.toList) bs&&rq ops [] ops.toList bs 0
def acD(sel:List Nat)(d:Nat):Option (Option Ctx)->Option (Option Ctx)
 |some (some Γ)=>some (some (fixC sel d Γ))
 |r=>r
def chk:List (Nat×Ctx)->Ctx->Code->AC->Option (Option Ctx)
 |_,_,_,.cond (.c (.tuple _)) .skip .skip=>some none
 |ctx,Γ,c,.pre sel d x=>chk ctx (fixC sel d Γ) c x
 |ctx,Γ,c,.post x sel d=>acD sel d (chk ctx Γ c x)
 |_,Γ,.skip,.skip=>some (some Γ)
 |_,Γ,.label _,.skip=>some (some Γ)
 |ctx,Γ,.scope c,.seq .skip x=>chk ctx Γ c x
 |_,Γ,.region _ ops false,.reg l=>(rN P nt ops ops.toList Γ l).map some
 |_,Γ,.region _ ops true,.regD l bs=>cond (ur ops bs) ((rN P nt ops ops.toList Γ l).map some) none
 |ctx,Γ,.seq a b,.seq x y=>match chk ctx Γ a x with
  |some (some Γ)=>chk ctx Γ b y
  |_=>none
 |ctx,Γ,.cond c a b,.cond c' x y=>cond (gT Γ c c') (match chk ctx Γ a x,chk ctx Γ b y with
  |some r,some s=>some (acH r s)
  |_,_=>none) none
 |ctx,Γ,.block id b,.block id' Γt x=>cond (SF id id') (match chk ((id,Γt)::ctx) Γ b x with
  |some none=>some (some Γt)
  |some (some Γb)=>cond (leC Γt Γb) (some (some Γt)) none
  |none=>none) none
 |ctx,Γ,.loop b,.loop Γh x=>cond (leC Γh Γ) (match chk ctx Γh b x with
  |some none=>some none
  |some (some Γb)=>cond (leC Γh Γb) (some none) none
  |none=>none) none
 |ctx,Γ,.exit id,.exit id'=>cond (SF id id') (match A9 ctx id with
  |some Γt=>cond (leC Γt Γ) (some none) none
  |none=>none) none
 |_,Γ,.ret,.ret rs=>cond (mG P Γ res.toList rs) (some none) none
 |_,_,_,_=>none
def CN(n:Nat):Ctx:=(List.range n).map λi=>[i]
def zE(fn:Func)(f:AFn):Bool:=match fn.body with
 |some c=>fn.name != "runtime.NumGoroutine"&&decide (f.na<=fn.ntmps)&&(match chk P fn.ntmps fn.results [] (CN f.na) c f.code with
  |some none=>true
  |some (some Γ)=>mG P Γ fn.results.toList f.endrs
  |none=>false)
 |none=>false
end
end Go.Am
