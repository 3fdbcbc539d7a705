/- The machine and its runs, part 3: AxStep AxLoc AxCode. -/
import Derived.Laws.BytesString
import Derived.Test.YtokdochbjilecaaGreatDoorB2
set_option linter.unusedVariables false
set_option linter.unusedSimpArgs false
set_option linter.unusedSectionVars false
namespace Go.Am
open Go Go.RowKit
section
variable{μ:Type}[AMem μ]{P:Program}{ρ:Ren}{V:Nat->Option Blk}{w:World}{B:Nat}
omit [AMem μ] in
theorem eD{m m':μ}{n n' r wm:Nat}{x:Option Value}{v:Value}(h:eG m n x=.ok v m' n' r wm):x=some v/\m'=m/\n'=n/\r=0/\wm=0:=by
 unfold eG at h;split at h
 ·injection h with e1 e2 e3 e4 e5;subst e1;subst e2;subst e3;subst e4;subst e5;exact⟨rfl,rfl,rfl,rfl,rfl⟩
 ·cases h
omit [AMem μ] in
theorem sU{m m':μ}{n n' r wm b:Nat}{x:Option Value}{v:Value}(h:lP m n b x=.ok v m' n' r wm):x=some v/\m'=m/\n'=n/\r=bit b/\wm=0:=by
 unfold lP at h;split at h
 ·injection h with e1 e2 e3 e4 e5;subst e1;subst e2;subst e3;subst e4;subst e5;exact⟨rfl,rfl,rfl,rfl,rfl⟩
 ·cases h
def ia(P:Program)(ρ:Ren)(V:Nat->Option Blk)(w:World)(B n:Nat)(m':μ)(n' wm:Nat)(v:Value)(s:Sem Next):Prop:=
 ∃nx w' ρ',s.run P w=.ok nx w'/\NRel ρ' v nx/\Post ρ V w B n m' n' wm ρ' w'
theorem ia.pure{m:μ}{n:Nat}{v v':Value}{s:Sem Value}(hm:MRel ρ V w B)(hr:s.run P w=.ok v' w)(hv:VRel ρ v v'):ia P ρ V w B n m n 0 v (do Pure.pure (.value (<-s))):=
 ⟨.value v',w,ρ,by rw[Sem.run_bind,hr];rfl,.inl ⟨v',rfl,hv⟩,Post.same hm n m⟩
theorem ia.val{m':μ}{n n' wm:Nat}{v v':Value}{w':World}{ρ':Ren}{s:Sem Value}(hr:s.run P w=.ok v' w')(hv:VRel ρ' v v')(hp:Post ρ V w B n m' n' wm ρ' w'):ia P ρ V w B n m' n' wm v (do Pure.pure (.value (<-s))):=
 ⟨.value v',w',ρ',by rw[Sem.run_bind,hr];rfl,.inl ⟨v',rfl,hv⟩,hp⟩
theorem zo{z:Array Value}{sz n:Nat}(hz:z.size=sz)(h0:sz≠0):((Array.range (n*sz)).map (fun i=>z[i % z.size]!)).toList=(List.replicate n z.toList).flatten:=by
 apply List.ext_getElem?
 intro i
 have hsum:∀n:Nat,((List.replicate n z.toList).flatten).length=n*sz:=by intro n;rw[List.length_flatten];simp[hz]
 have hget:∀(n i:Nat),i<n*sz->((List.replicate n z.toList).flatten)[i]?=z[i % sz]?:=by
  intro n
  induction n with
  |zero=>intro i hi;simp at hi
  |succ n ih=>
   intro i hi
   rw[List.replicate_succ,List.flatten_cons]
   by_cases h:i<sz
   ·rw[List.getElem?_append_left (by simpa[hz]using h),Nat.mod_eq_of_lt h];simp
   ·rw[List.getElem?_append_right (by simp[hz];omega)]
    have e:z.toList.length=sz:=by simpa using hz
    rw[e,ih (i-sz) (by rw[Nat.succ_mul]at hi;omega),<-Nat.mod_eq_sub_mod (by omega)]
 by_cases hi:i<n*sz
 ·rw[hget n i hi]
  have hlt:i % sz<z.size:=by rw[hz];exact Nat.mod_lt _ (by omega)
  subst hz
  simp only[Array.getElem?_toList,Array.getElem?_map,Array.getElem?_range,hi,if_true,Option.map_some]
  rw[getElem!_pos z _ hlt,getElem?_pos z _ hlt]
 ·rw[List.getElem?_eq_none (by simp;omega),List.getElem?_eq_none (by rw[hsum];omega)]
omit [AMem μ] in
theorem run_places(fs:Array Field)(hall:fs.toList.all (fun f=>(P.info? f.type).isSome)=true):(fs.mapM (m:=Sem) fun f=>Prod.mk f.offset <$> sizeOf f.type).run P w=.ok (places P fs).toArray w:=by
 have key:∀l:List Field,l.all (fun f=>(P.info? f.type).isSome)=true->(l.mapM (m:=Sem) fun f=>Prod.mk f.offset <$> sizeOf f.type).run P w=.ok (l.map fun f=>(f.offset,((P.info? f.type).map (·.size)).getD 0)) w:=by
  intro l
  induction l with
  |nil=>intro _;rfl
  |cons f l ih=>
   intro hl
   simp only[List.all_cons,Bool.and_eq_true]at hl
   obtain⟨i,hi⟩:=Option.isSome_iff_exists.1 hl.1
   simp only[List.mapM_cons,Sem.run_bind,Sem.run_map,run_sizeOf hi,Result.andThen_ok,ih hl.2,Sem.run_pure,List.map_cons,hi,Option.map_some,Option.getD_some]
 have h:=key fs.toList hall
 rw[Array.mapM_eq_mapM_toList]
 simp only[Sem.run_map,h,Result.andThen_ok]
 rfl
omit [AMem μ] in
theorem yO{t:Nat}{ti:TypeInfo}{zv:Value}{fs:Array Field}{ps:Array (Nat×Operand)}{d':Array Value}{a:Act}(hti:P.info? t=some ti)(hzv:ti.zero=some zv)(hfs:P.underlying t=some (.struct fs))
  (hall:fs.toList.all (fun f=>(P.info? f.type).isSome)=true) (hd:Instr.fill (fun i=>(places P fs)[i]?) zv.cells (ps.toList.map fun p=>(p.1,a.eval p.2))=some d'):
  (Instr.build t (ps.map fun(i,x)=>(i,a.eval x))).run P w=.ok (.agg d') w:=by
 have e1:(fun i:Nat=>(places P fs).toArray[i]?)=fun i=>(places P fs)[i]?:=by funext i;simp
 have e2:(ps.map fun(i,x)=>(i,a.eval x)).toList=ps.toList.map fun p=>(p.1,a.eval p.2):=by simp
 have hp:=run_places (P:=P) (w:=w) fs hall
 unfold Instr.build
 simp only[Sem.run_bind,gg hti hzv,run_underlying hfs,Result.andThen_ok,bind_pure_comp,hp,e1,e2,hd,Sem.run_pure]
omit [AMem μ] in
theorem Bz{t k el:Nat}{ti ie:TypeInfo}{zv:Value}{ps:Array (Nat×Operand)}{d':Array Value}{a:Act}(hti:P.info? t=some ti)(hzv:ti.zero=some zv)(hel:P.underlying t=some (.array k el))(hie:P.info? el=some ie)
  (hd:Instr.fill (fun i=>some (i*ie.size,ie.size)) zv.cells (ps.toList.map fun p=>(p.1,a.eval p.2))=some d'):
  (Instr.build t (ps.map fun(i,x)=>(i,a.eval x))).run P w=.ok (.agg d') w:=by
 have e2:(ps.map fun(i,x)=>(i,a.eval x)).toList=ps.toList.map fun p=>(p.1,a.eval p.2):=by simp
 unfold Instr.build
 simp only[Sem.run_bind,gg hti hzv,run_underlying hel,Result.andThen_ok,run_sizeOf hie,e2,hd,Sem.run_pure]
omit [AMem μ] in
theorem tV{t el len sz:Nat}{ti:TypeInfo}{zv:Value}{ps:Array (Nat×Operand)}{d':Array Value}{a:Act}(hel:P.underlying t=some (.slice el))(hti:P.info? el=some ti)(hzv:ti.zero=some zv)(hts:ti.size=sz)(hle:len*sz<=16777216)
  (hd:Instr.fill (fun i=>some (i*sz,sz)) ((Array.range (len*sz)).map (fun i=>zv.cells[i % zv.cells.size]!)) (ps.toList.map fun p=>(p.1,a.eval p.2))=some d'):
  (Instr.buildSlice t len (ps.map fun(i,x)=>(i,a.eval x))).run P w=.ok (.slice (some ⟨w.heap.size,0,none⟩) len len) (w.alloc (.cells d' el)):=by
 have e2:(ps.map fun(i,x)=>(i,a.eval x)).toList=ps.toList.map fun p=>(p.1,a.eval p.2):=by simp
 subst hts
 have hno:¬(len*ti.size > 2 ^ 24):=by omega
 unfold Instr.buildSlice
 simp only[Sem.run_bind,run_underlying hel,Result.andThen_ok,run_sizeOf hti]
 rw[if_neg hno]
 by_cases hl0:len*ti.size=0
 ·rw[hl0]at hd
  have r0:Array.range 0=#[]:=rfl
  simp only[r0,List.map_toArray,List.map_nil]at hd
  simp only[hl0,if_true,Sem.run_pure,Sem.run_bind,Result.andThen_ok,r0,List.map_toArray,List.map_nil,e2,hd,newRow]
  rfl
 ·simp only[if_neg hl0,Sem.run_bind,gg hti hzv,Result.andThen_ok,Sem.run_pure,e2,hd,newRow]
  rfl
omit [AMem μ] in
theorem tT{t el sz l c:Nat}{ti:TypeInfo}{zv:Value}{k k':IntKind}(hel:P.underlying t=some (.slice el))(hti:P.info? el=some ti)(hzv:ti.zero=some zv)(hts:ti.size=sz)(hlc:l<=c)(hb:c*ti.bytes<=281474976710656)(hc:c<=1099511627776)
  (hz0:sz≠0) (hzs:zv.cells.size=sz):
  (Instr.makeSlice t (.int k (Int.ofNat l)) (.int k' (Int.ofNat c))).run P w=.ok (.slice (some ⟨w.heap.size,0,none⟩) l c) (w.alloc (.cells ((List.replicate c zv.cells.toList).flatten).toArray el)):=by
 have e1:IntKind.i64.wrap (Int.ofNat l)=(l:Int):=ja (by simp only[Int.ofNat_eq_natCast];omega) (by simp only[Int.ofNat_eq_natCast];omega)
 have e2:IntKind.i64.wrap (Int.ofNat c)=(c:Int):=ja (by simp only[Int.ofNat_eq_natCast];omega) (by simp only[Int.ofNat_eq_natCast];omega)
 have h1:((ti.bytes:Int)*(c:Int)<=281474976710656):=by rw[<-Int.natCast_mul,Nat.mul_comm];omega
 have h2:¬((c:Int)<0):=by omega
 have h3:¬((l:Int)<0):=by omega
 have h4:¬((c:Int)<(l:Int)):=by omega
 have h5:¬(281474976710656<(ti.bytes:Int)*(c:Int)):=by omega
 unfold Instr.makeSlice
 simp only[Sem.run_bind,run_underlying hel,Result.andThen_ok,asInt,asIntOf,Sem.run_pure,typeInfo,run_program,hti,e1,e2]
 have hcond:(((decide ((c:Int)<0) || decide ((ti.bytes:Int)*(c:Int) > 2 ^ 48)) || decide ((l:Int)<0) || decide ((l:Int) > (c:Int)))=true)=False:=by
  simp[h3];omega
 simp only[hcond,if_false,Sem.run_bind,run_askRoom,Result.andThen_ok,Int.toNat_natCast]
 by_cases hc0:c*ti.size=0
 ·have hcz:c=0:=by rcases Nat.mul_eq_zero.1 hc0 with h|h;exact h;rw[hts]at h;exact absurd h hz0
  subst hcz
  have r0:Array.range 0=#[]:=rfl
  simp[run_sizeOf hti,newRow,r0]
 ·simp only[run_sizeOf hti,Result.andThen_ok,if_neg hc0,Sem.run_bind,gg hti hzv,Sem.run_pure,newRow]
  have e3:(Array.range (c*ti.size)).map (fun x=>zv.cells[x % zv.cells.size]!)=((List.replicate c zv.cells.toList).flatten).toArray:=by
   apply Array.ext'
   rw[hts,zo hzs hz0]
  rw[e3]
  rfl
theorem tF{dst:Option Tmp}{t ty:Nat}{x:Operand}{lo hi:Option Operand}{a:Act}{pos:String}{after:Array Edge}{guard:Option (Nat×Bool)}{m m':μ}{n n' r wm:Nat}{v xv:Value}{la lb:Option Nat}(hm:MRel ρ V w B)
  (ht:(match P.underlying t with|some .string=>true|_=>false)=true) (hx:VRel ρ xv (a.eval x))
  (hlo:(la=some 0/\lo=none)\/∃l u,la=eN u/\lo=some l/\VRel ρ u (a.eval l)) (hhi:(lb=GQ xv/\hi=none)\/∃l u,lb=eN u/\hi=some l/\VRel ρ u (a.eval l))
  (h:eG m n (zG la lb xv)=.ok v m' n' r wm):ia P ρ V w B n m' n' wm v (execOp a.eval ⟨dst,.slice t x lo hi none,ty,pos,after,guard⟩):=by
 have h0:=eD h
 clear h
 obtain⟨h,rfl,rfl,rfl,rfl⟩:=h0
 have hu:P.underlying t=some .string:=by
  split at ht
  ·assumption
  ·cases ht
 unfold zG at h
 split at h
 ·rename_i s
  have e1:=hx.dN rfl
  split at h
  ·rename_i _ _ c d
   have hlo:(lo.map a.eval=none/\c=0)\/∃k,lo.map a.eval=some (.int k (Int.ofNat c)):=by
    rcases hlo with⟨h1,rfl⟩|⟨l,u,h1,rfl,h3⟩
    ·injection h1 with h1;exact .inl ⟨rfl,h1⟩
    ·obtain⟨k,hk⟩:=gE h3 h1.symm
     exact .inr ⟨k,by rw[Option.map_some,hk]⟩
   have hhi:(hi.map a.eval=none/\d=s.size)\/∃k,hi.map a.eval=some (.int k (Int.ofNat d)):=by
    rcases hhi with⟨h1,rfl⟩|⟨l,u,h1,rfl,h3⟩
    ·injection h1 with h1;exact .inl ⟨rfl,h1⟩
    ·obtain⟨k,hk⟩:=gE h3 h1.symm
     exact .inr ⟨k,by rw[Option.map_some,hk]⟩
   obtain⟨hr,hf⟩:=BV (w:=w) hu h hlo hhi
   rw[<-e1]at hr
   have hr:(Instr.sliceAt t (a.eval x) (lo.map a.eval) (hi.map a.eval) none).run P w=.ok v w:=by
    unfold Instr.sliceAt
    simp only[Sem.run_bind,run_underlying hu,Result.andThen_ok]
    exact hr
   exact ia.pure hm hr (.flat hf)
  ·cases h
 ·cases h
theorem tD:∀{l:List Value} {zs:List Int},Dn l=some zs->l=zs.map (Value.int .u8)
 |[],zs,h=>by injection h with h;subst h;rfl
 |v::l,zs,h=>by
  cases v with
  |int k z=>
   cases k with
   |u8=>
    unfold Dn at h
    split at h
    ·rename_i ys hy
     injection h with h
     subst h
     rw[tD hy];rfl
    ·cases h
   |_=>cases h
  |_=>cases h
theorem Kv(zs:List Int):(zs.map (Value.int .u8)).all flat=true:=by
 rw[List.all_map];exact List.all_eq_true.2 fun _ _=>rfl
theorem dO.qh{ρ:Ren}{l l':List Value}(h:dO ρ l l')(hf:l.all flat=true):l'=l:=by
 apply List.ext_getElem?
 intro i
 cases ha:l[i]? with
 |none=>
  have hl:=h.1
  rw[List.getElem?_eq_none_iff]at ha ⊢
  omega
 |some x=>
  have hi:i<l'.length:=by rw[<-h.1];exact(List.getElem?_eq_some_iff.1 ha).1
  have hy:l'[i]?=some l'[i]:=List.getElem?_eq_getElem hi
  have:=(h.2 i _ _ ha hy).dN (List.all_eq_true.1 hf x (List.mem_of_getElem? ha))
  rw[hy,this]
set_option maxHeartbeats 1000000 in
theorem zu{t kt el:Nat}{a:Act}{m m':μ}{n n' r wm:Nat}{v xm km ym xv kv yv:Value}(hel:P.underlying t=some (.map kt el))(hm:MRel ρ V w B)(hag:eI V m n (Nat.lor r wm))(hxr:VRel ρ xm xv)(hkr:VRel ρ km kv)(hyr:VRel ρ ym yv)
  (h:uw P (.upd kt) [xm,km,ym] m n=.ok v m' n' r wm):∃w' ρ',(Instr.mapUpdate t xv kv yv).run P w=.ok () w'/\v=undef/\Post ρ V w B n m' n' wm ρ' w':=by
 replace h:cond (du km) (match xm with
  | .map (some b)=>Fl P kt m n b km ym (fg m n b)
  |_=>.no) .no=.ok v m' n' r wm:=h
 cases hf:du km
 ·rw[hf,cond_false]at h;cases h
 rw[hf,cond_true]at h
 rw[hkr.nY hf]
 split at h
 ·rename_i b
  unfold Fl at h
  split at h
  ·rename_i es hg
   unfold yl at h
   split at h
   ·rename_i es1 he1
    injection h with e1 e2 e3 e4 e5;subst e1;subst e2;subst e3;subst e4;subst e5
    cases hk:gk P false kt km (es.map (·.1))with
    |none=>rw[hk]at he1;cases he1
    |some rr=>
     rw[hk]at he1
     cases hxr with
     |flat hfl=>simp[flat]at hfl
     |map hp=>
      obtain⟨hV,hB⟩:=uv hm hag (by rw[c9,dn];simp) hg hp
      obtain⟨w',hrun,hb',hother,hos,htape,hout,hsize⟩:=Fk hel hB hk hyr he1
      exact⟨w',ρ,hrun,rfl,Post.Gx hm (AMem.get_lim _ _ _ (dP hg).2) hp hV rfl rfl hB.1 hb' hother hos htape hout hsize⟩
   ·cases h
  ·cases h
 ·cases h
theorem BW{Γ:Ctx}{e:List Value}{a:Act}{m m':μ}{n n' r wm:Nat}{v:Value}{rec:Nat->List Value->μ->Nat->OR μ}{o:Oper}{x:AOp}
  (hnc:(∀f args,x≠.call f args)/\(∀y args,x≠.callv y args)) (hchk:fq P Γ o.op x=true) (he:dI ρ Γ e a.tmps) (h:dJ P rec e m n x=.ok v m' n' r wm)
  (hm:MRel ρ V w B) (hag:eI V m n (Nat.lor r wm)) (hfree:gI ρ n):ia P ρ V w B n m' n' wm v (execOp a.eval o):=by
 obtain⟨dst,op,ty,pos,after,guard⟩:=o
 simp only at hchk
 unfold fq at hchk
 split at hchk
 ·rename_i x y
  replace h:OR.ok (ev e y) m n 0 0=.ok v m' n' r wm:=h
  injection h with e1 e2 e3 e4 e5;subst e1;subst e2;subst e3;subst e4;subst e5
  exact⟨_,w,ρ,rfl,.inl ⟨_,rfl,dq he hchk⟩,Post.same hm n m⟩
 ·rename_i x y
  replace h:OR.ok (ev e y) m n 0 0=.ok v m' n' r wm:=h
  injection h with e1 e2 e3 e4 e5;subst e1;subst e2;subst e3;subst e4;subst e5
  exact⟨_,w,ρ,rfl,.inl ⟨_,rfl,dq he hchk⟩,Post.same hm n m⟩
 ·rename_i c a1 b c' a' b'
  replace h:eG m n (Aa (ev e a') (ev e b') (ev e c'))=.ok v m' n' r wm:=h
  have h0:=eD h
  clear h
  obtain⟨h,rfl,rfl,rfl,rfl⟩:=h0
  simp only[Bool.and_eq_true]at hchk
  have hc:=dq he hchk.1.1
  unfold Aa at h
  split at h
  ·rename_i t ht
   injection h with h
   rw[ht]at hc
   have hc:=hc.dN rfl
   refine⟨.value (if t then a.eval a1 else a.eval b),w,ρ,by simp[execOp,hc,asBool],.inl ⟨_,rfl,?_⟩,Post.same hm _ _⟩
   rw[<-h]
   cases t
   ·exact dq he hchk.2
   ·exact dq he hchk.1.2
  ·cases h
 ·rename_i op t x y yt op' t' x' y'
  replace h:eG m n (ji P op' t' (ev e x') (ev e y'))=.ok v m' n' r wm:=h
  have h0:=eD h
  clear h
  obtain⟨h,rfl,rfl,rfl,rfl⟩:=h0
  simp only[Bool.and_eq_true,beq_iff_eq]at hchk
  obtain⟨⟨⟨e1,e2⟩,hx⟩,hy⟩:=hchk
  have e1:op=op':=e1
  subst e1;subst e2
  obtain⟨v',hr,hv⟩:=C5 (w:=w) (dq he hx) (dq he hy) h x y
  exact ia.pure hm hr hv
 ·rename_i op t x op' x'
  replace h:eG m n (zz op' (ev e x'))=.ok v m' n' r wm:=h
  have h0:=eD h
  clear h
  obtain⟨h,rfl,rfl,rfl,rfl⟩:=h0
  simp only[Bool.and_eq_true,beq_iff_eq]at hchk
  obtain⟨e1,hx⟩:=hchk
  have e1:op=op':=e1
  subst e1
  obtain⟨v',hr,hv⟩:=BU (P:=P) (w:=w) (dq he hx) h
  exact ia.pure hm hr hv
 ·rename_i s d x k x'
  replace h:eG m n (iO k (ev e x'))=.ok v m' n' r wm:=h
  have h0:=eD h
  clear h
  obtain⟨h,rfl,rfl,rfl,rfl⟩:=h0
  simp only[Bool.and_eq_true]at hchk
  obtain⟨⟨hs,hd⟩,hx⟩:=hchk
  split at hd
  ·rename_i k' hd'
   have:k=k':=by simpa using hd
   subst this
   obtain⟨v',hr,hv⟩:=Bc (w:=w) hs hd' (dq he hx) h
   exact ia.pure hm hr hv
  ·cases hd
 ·rename_i t x f off x'
  replace h:eG m n (F1 off (ev e x'))=.ok v m' n' r wm:=h
  have h0:=eD h
  clear h
  obtain⟨h,rfl,rfl,rfl,rfl⟩:=h0
  simp only[Bool.and_eq_true]at hchk
  obtain⟨ht,hx⟩:=hchk
  split at ht
  ·rename_i fs hfs
   split at ht
   ·rename_i fd hfd
    simp only[Bool.and_eq_true,beq_iff_eq]at ht
    obtain⟨ho,hi⟩:=ht
    split at hi
    ·rename_i ti hti
     obtain⟨v',hr,hv⟩:=CJ (w:=w) hfs hfd ho hti (by simpa using hi) (dq he hx) h
     exact ia.pure hm hr hv
    ·cases hi
   ·cases ht
  ·cases ht
 ·rename_i t x i sz x' i'
  replace h:eG m n (rS (fun i=>fU sz i (ev e x')) (eN (ev e i')))=.ok v m' n' r wm:=h
  have h0:=eD h
  clear h
  obtain⟨h,rfl,rfl,rfl,rfl⟩:=h0
  simp only[Bool.and_eq_true]at hchk
  obtain⟨⟨ht,hx⟩,hi⟩:=hchk
  split at ht
  ·rename_i el hel
   obtain⟨ti,hti,hts⟩:=fM ht
   cases hn:eN (ev e i')with
   |none=>rw[hn]at h;cases h
   |some k=>
    rw[hn]at h
    obtain⟨ik,hik⟩:=gE (dq he hi) hn
    obtain⟨v',hr,hv⟩:=CE (w:=w) (k:=ik) hel hti hts (dq he hx) h
    refine ia.pure (v':=v') hm ?_ hv
    rw[hik];exact hr
  ·cases ht
 ·rename_i t x i k sz x' i'
  replace h:eG m n (rS (fun i=>FU k sz i (ev e x')) (eN (ev e i')))=.ok v m' n' r wm:=h
  have h0:=eD h
  clear h
  obtain⟨h,rfl,rfl,rfl,rfl⟩:=h0
  simp only[Bool.and_eq_true]at hchk
  obtain⟨⟨ht,hx⟩,hi⟩:=hchk
  split at ht
  ·rename_i k' el hel
   simp only[Bool.and_eq_true,beq_iff_eq]at ht
   obtain⟨rfl,ht⟩:=ht
   obtain⟨ti,hti,hts⟩:=fM ht
   cases hn:eN (ev e i')with
   |none=>rw[hn]at h;cases h
   |some j=>
    rw[hn]at h
    obtain⟨ik,hik⟩:=gE (dq he hi) hn
    obtain⟨v',hr,hv⟩:=CF (w:=w) (k:=ik) hel hti hts (dq he hx) h
    refine ia.pure (v':=v') hm ?_ hv
    rw[hik];exact hr
  ·cases ht
 ·rename_i t ps z ps'
  replace h:eG m n (qq (jW (kU e ps') z))=.ok v m' n' r wm:=h
  have h0:=eD h
  clear h
  obtain⟨h,rfl,rfl,rfl,rfl⟩:=h0
  obtain⟨c,hc,rfl⟩:=rC h
  simp only[Bool.and_eq_true]at hchk
  obtain⟨hz,hp⟩:=hchk
  obtain⟨ti,zv,hti,hzv,hzl,hfl,_⟩:=lZ hz
  split at hp
  ·rename_i fs hfs
   simp only[Bool.and_eq_true]at hp
   obtain⟨hall,hps⟩:=hp
   obtain⟨h1,h2⟩:=kT he hps
   obtain⟨d',hd,hr⟩:=mf _ _ z c zv.cells h1 h2 (by rw[hzl];exact jH ρ hfl) hc
   refine ia.pure (v':=.agg d') hm (yO hti hzv hfs hall hd) (by have:=hr.agg;simpa using this)
  ·rename_i k el hel
   split at hp
   ·rename_i ie hie
    obtain⟨h1,h2⟩:=kT he hp
    obtain⟨d',hd,hr⟩:=mf (place:=fun i=>some (i*ie.size,ie.size)) _ _ z c zv.cells h1 h2 (by rw[hzl];exact jH ρ hfl) hc
    refine ia.pure (v':=.agg d') hm (Bz hti hzv hel hie hd) (by have:=hr.agg;simpa using this)
   ·cases hp
  ·cases hp
 ·rename_i x i i' x'
  replace h:eG m n (xl i' (ev e x'))=.ok v m' n' r wm:=h
  have h0:=eD h
  clear h
  obtain⟨h,rfl,rfl,rfl,rfl⟩:=h0
  simp only[Bool.and_eq_true,beq_iff_eq]at hchk
  obtain⟨rfl,hx⟩:=hchk
  obtain⟨v',hr,hv⟩:=AW (P:=P) (w:=w) (dq he hx) h
  exact ia.pure hm hr hv
 ·rename_i x x'
  replace h:eG m n (qW (ev e x'))=.ok v m' n' r wm:=h
  have h0:=eD h
  clear h
  obtain⟨h,rfl,rfl,rfl,rfl⟩:=h0
  obtain⟨ad,hx,hv⟩:=yC (dq he hchk) h
  exact⟨.value (a.eval x),w,ρ,by simp[execOp,hx],.inl ⟨_,rfl,hv⟩,Post.same hm _ _⟩
 ·rename_i f a1 c f' a' c'
  replace h:OR.ok (.func (.func f') (evs e a').toArray (evs e c').toArray) m n 0 0=.ok v m' n' r wm:=h
  injection h with e1 e2 e3 e4 e5;subst e1;subst e2;subst e3;subst e4;subst e5
  simp only[Bool.and_eq_true,beq_iff_eq]at hchk
  obtain⟨⟨rfl,ha⟩,hc⟩:=hchk
  have h1:=jO he ha
  have h2:=jO he hc
  refine⟨_,w,ρ,rfl,.inl ⟨_,rfl,?_⟩,Post.same hm n m⟩
  refine .func (by simpa using h1.1) (fun i x y hx hy=>h1.2 i x y (by simpa using hx) (by simpa using hy)) (by simpa using h2.1) (fun i x y hx hy=>h2.2 i x y (by simpa using hx) (by simpa using hy))
 ·rename_i args ts str x'
  replace h:eG m n (jS str (ev e x'))=.ok v m' n' r wm:=h
  have h0:=eD h
  clear h
  obtain⟨h,rfl,rfl,rfl,rfl⟩:=h0
  split at hchk
  ·rename_i x t hargs hts
   simp only[Bool.and_eq_true]at hchk
   obtain⟨hx,ht⟩:=hchk
   have hargs:args=#[x]:=by apply Array.ext';simpa using hargs
   subst hargs
   have hxr:=dq he hx
   have hok:∃v',(Builtin.len_ ts ty #[a.eval x]).run P w=.ok v' w/\VRel ρ v v':=by
    unfold jS at h
    split at h
    ·rename_i ad k c hxe
     rw[hxe]at hxr
     obtain⟨a',c',hsh⟩:=kn hxr
     split at ht
     ·rename_i el hel
      have:str=false:=by simpa using ht
      subst this
      injection h with h;subst h
      exact⟨.int .i64 k,by simp[Builtin.len_,hts,hsh,run_underlying hel,goInt],.int ρ _ _⟩
     ·subst ht;cases h
     ·cases ht
    ·rename_i s hxe
     rw[hxe]at hxr
     have e:=hxr.dN rfl
     split at ht
     ·have:str=false:=by simpa using ht
      subst this;cases h
     ·rename_i hst
      subst ht
      injection h with h;subst h
      exact⟨.int .i64 s.size,by simp[Builtin.len_,hts,e,run_underlying hst,goInt],.int ρ _ _⟩
     ·cases ht
    ·cases h
   obtain⟨v',hr,hv⟩:=hok
   exact⟨.value v',w,ρ,by simp[execOp,resolve,invoke,builtin,hr],.inl ⟨_,rfl,hv⟩,Post.same hm _ _⟩
  ·cases hchk
 ·rename_i args ts x' y'
  replace h:eG m n (mxV (ev e x') (ev e y'))=.ok v m' n' r wm:=h
  have h0:=eD h
  clear h
  obtain⟨h,rfl,rfl,rfl,rfl⟩:=h0
  split at hchk
  ·rename_i x y hargs
   simp only[Bool.and_eq_true]at hchk
   have hargs:args=#[x,y]:=by apply Array.ext';simpa using hargs
   subst hargs
   obtain⟨v',hr,hv⟩:=FL (P:=P) (w:=w) ts ty (dq he hchk.1) (dq he hchk.2) h
   refine⟨.value v',w,ρ,?_,.inl ⟨_,rfl,hv⟩,Post.same hm _ _⟩
   simp[execOp,resolve,invoke,builtin,hr]
  ·cases hchk
 ·rename_i t x lo hi sz x' lo' hi'
  replace h:kP m n sz (jK sz (oev e lo') (oev e hi') (ev e x')) (ev e x')=.ok v m' n' r wm:=h
  simp only[Bool.and_eq_true]at hchk
  obtain⟨⟨⟨ht,hx⟩,hlo⟩,hhi⟩:=hchk
  have opt:∀{u:Option Operand} {u':Option Opd},ku Γ u u'=true->(oev e u'=none/\u.map a.eval=none)\/∃y y',oev e u'=some y/\u.map a.eval=some y'/\VRel ρ y y':=by
   intro u u' hu
   cases u with
   |none=>cases u' with
    |none=>exact .inl ⟨rfl,rfl⟩
    |some _=>cases hu
   |some u=>cases u' with
    |none=>cases hu
    |some u'=>exact .inr ⟨_,_,rfl,rfl,dq he hu⟩
  split at ht
  ·rename_i el hel
   obtain⟨ti,hti,hts⟩:=fM ht
   have hxr:=dq he hx
   have fin:∀{r0:Nat},(∀b o k p,ev e x'=.slice (some ⟨b,o,none⟩) k UNK->ρ b=some p->p.sz=sz)->jK sz (oev e lo') (oev e hi') (ev e x')=some v->m'=m->n'=n->wm=0->ia P ρ V w B n m' n' wm v (execOp a.eval ⟨dst,.slice t x lo hi none,ty,pos,after,guard⟩):=by
    intro r0 hs hv e1 e2 e3
    subst e1;subst e2;subst e3
    obtain⟨v',hr,hv'⟩:=BZ (w:=w) hel hti hts (opt hlo) (opt hhi) hs hxr hv
    exact ia.pure hm hr hv'
   unfold kP at h
   split at h
   ·rename_i b o ln c hxe
    cases hc:Nat.beq c UNK
    ·rw[hc,cond_false]at h
     obtain⟨h1,h2,h3,_,h5⟩:=eD h
     refine fin (r0:=0) (fun b o k p hk=>?_) h1 h2 h3 h5
     rw[hxe]at hk;injection hk with _ _ hk;subst hk;simp at hc
    ·rw[hc,cond_true]at h
     cases hz:zE sz (fg m n b)
     ·rw[hz,cond_false]at h;cases h
     ·rw[hz,cond_true]at h
      obtain⟨h1,h2,h3,h4,h5⟩:=sU h
      refine fin (r0:=0) (fun b' o' k p hk hp=>?_) h1 h2 h3 h5
      rw[hxe]at hk;injection hk with hk _ _;injection hk with hk;injection hk with hk _;subst hk
      unfold zE at hz
      split at hz
      ·rename_i s _ _ hg
       have hz:s=sz:=Nat.eq_of_beq_eq_true hz
       obtain⟨_,hb⟩:=fo hm hag (by rw[c9,h4,dn];simp) hg hp
       rw[hb.1,hz]
      ·cases hz
   ·rename_i hno
    obtain⟨h1,h2,h3,_,h5⟩:=eD h
    exact fin (r0:=0) (fun b o k p hk=>absurd hk (hno b o k UNK)) h1 h2 h3 h5
  ·cases ht
 ·rename_i t z
  replace h:kZ m n (.cells z 0 false true) iU=.ok v m' n' r wm:=h
  obtain⟨ti,zv,hti,hzv,hzl,hfl,_⟩:=lZ hchk
  obtain⟨rfl,ρ',hn,hpost⟩:=lV (c':=zv.cells.toList) hm h hfree 0 t (by rw[hzl];exact Nat.le_refl _) (by rw[hzl];exact(jH ρ hfl).Lf) (fun h=>by cases h)
  refine ia.val (v':=.pointer (some ⟨w.heap.size,0,none⟩)) (w':=w.alloc (.cells zv.cells t)) ?_ ?_ (by simpa using hpost)
  ·simp only[Instr.alloc,Sem.run_bind,gg hti hzv,Result.andThen_ok,newVar,newRow];rfl
  ·exact VRel.ptr (o:=0) hn
 ·rename_i t x x'
  replace h:kZ m n (.cells (ev e x').cells.toList 0 false true) iU=.ok v m' n' r wm:=h
  have hx:=(dq he hchk).cells
  obtain⟨rfl,ρ',hn,hpost⟩:=lV (c':=(a.eval x).cells.toList) hm h hfree 0 t (by rw[hx.1];exact Nat.le_refl _) hx.Lf (fun h=>by cases h)
  refine ia.val (v':=.pointer (some ⟨w.heap.size,0,none⟩)) (w':=w.alloc (.cells (a.eval x).cells t)) ?_ ?_ (by simpa using hpost)
  ·simp only[Instr.box,Sem.run_bind,newVar,newRow];rfl
  ·exact VRel.ptr (o:=0) hn
 ·rename_i t len ps sz len' z ps'
  replace h:Ap m n sz len' (jW (iV sz e ps') (mE z len'))=.ok v m' n' r wm:=h
  simp only[Bool.and_eq_true,beq_iff_eq,decide_eq_true_eq]at hchk
  obtain⟨⟨⟨rfl,hle⟩,ht⟩,hps⟩:=hchk
  split at ht
  ·rename_i el hel
   simp only[Bool.and_eq_true,beq_iff_eq,Bool.not_eq_true']at ht
   obtain⟨⟨⟨hsz,hz⟩,hzl⟩,hz0⟩:=ht
   have hz0:sz≠0:=by intro e;subst e;simp at hz0
   obtain⟨ti,hti,hts⟩:=fM hsz
   obtain⟨ti',zv,hti',hzv,hzl',hfl,_⟩:=lZ hz
   have:ti=ti':=by rw[hti]at hti';injection hti'
   subst this
   cases hc:jW (iV sz e ps') (mE z len)with
   |none=>rw[hc]at h;cases h
   |some c=>
    rw[hc]at h
    replace h:kZ m n (.cells c sz false true) (yb 0 len len)=.ok v m' n' r wm:=h
    obtain⟨h1,h2⟩:=mS he sz hps
    have hzs:zv.cells.size=sz:=by have:=congrArg List.length hzl';simp at this;omega
    have hcells:((Array.range (len*sz)).map (fun i=>zv.cells[i % zv.cells.size]!)).toList=mE z len:=by
     rw[zo hzs hz0,hzl',pO]
    obtain⟨d',hd,hr⟩:=mf (ρ:=ρ) (place:=fun i=>some (i*sz,sz)) _ _ _ c ((Array.range (len*sz)).map (fun i=>zv.cells[i % zv.cells.size]!)) h1 h2
     (by rw[hcells];refine jH ρ ?_;rw[pO,List.all_flatten];simp only[List.all_eq_true];intro l hl;rw[List.eq_of_mem_replicate hl];simpa[List.all_eq_true]using hfl) hc
    obtain⟨rfl,ρ',hn,hpost⟩:=lV (c':=d'.toList) hm h hfree 0 el (by rw[hr.1];exact Nat.le_refl _) hr.Lf (fun h=>by cases h)
    have hlen:len<=16777216:=by
     have:=Nat.le_mul_of_pos_right len (Nat.pos_of_ne_zero hz0);omega
    refine ia.val (v':=.slice (some ⟨w.heap.size,0,none⟩) len len) (w':=w.alloc (.cells d' el)) ?_ ?_ (by simpa using hpost)
    ·exact tV hel hti hzv hts hle hd
    ·exact VRel.slice (o:=0) hn (Nat.le_refl _) (fun h=>by unfold UNK at h;omega) (fun _=>rfl) (by unfold VAG;omega)
  ·cases ht
 ·rename_i t l c sz bytes z l' c'
  replace h:rX sz bytes z m n (eN (ev e l')) (eN (ev e c'))=.ok v m' n' r wm:=h
  simp only[Bool.and_eq_true]at hchk
  obtain⟨⟨ht,hl⟩,hc⟩:=hchk
  split at ht
  ·rename_i el hel
   simp only[Bool.and_eq_true,beq_iff_eq,Bool.not_eq_true']at ht
   obtain⟨⟨⟨⟨hsz,hby⟩,hz⟩,hzl⟩,hz0⟩:=ht
   have hz0:sz≠0:=by intro e;subst e;simp at hz0
   obtain⟨ti,hti,hts⟩:=fM hsz
   obtain⟨ti2,hti2,htb⟩:=rZ hby
   have:ti=ti2:=by rw[hti]at hti2;injection hti2
   subst this
   obtain⟨ti',zv,hti',hzv,hzl',hfl,_⟩:=lZ hz
   have:ti=ti':=by rw[hti]at hti';injection hti'
   subst this
   have hzs:zv.cells.size=sz:=by have:=congrArg List.length hzl';simp at this;omega
   cases hnl:eN (ev e l')with
   |none=>rw[hnl]at h;cases h
   |some l1=>
    cases hnc:eN (ev e c')with
    |none=>rw[hnl,hnc]at h;cases h
    |some c1=>
     rw[hnl,hnc]at h
     obtain⟨k,hk⟩:=gE (dq he hl) hnl
     obtain⟨k',hk'⟩:=gE (dq he hc) hnc
     replace h:cond (Nat.ble l1 c1&&Nat.ble (Nat.mul c1 bytes) 281474976710656&&Nat.ble c1 1099511627776) (kZ m n (.cells (mE z c1) sz false true) (yb 0 l1 c1)) .no=.ok v m' n' r wm:=h
     cases hb:(Nat.ble l1 c1&&Nat.ble (Nat.mul c1 bytes) 281474976710656&&Nat.ble c1 1099511627776)
     ·rw[hb,cond_false]at h;cases h
     ·rw[hb,cond_true]at h
      simp only[Bool.and_eq_true,Nat.ble_eq]at hb
      obtain⟨⟨hb1,hb2⟩,hb3⟩:=hb
      have hb2:c1*bytes<=281474976710656:=hb2
      have hfl2:(mE z c1).all flat=true:=by rw[pO,List.all_flatten];simp only[List.all_eq_true];intro l hl;rw[List.eq_of_mem_replicate hl];simpa[List.all_eq_true]using hfl
      obtain⟨rfl,ρ',hn,hpost⟩:=lV (c':=mE z c1) hm h hfree 0 el (Nat.le_refl _) (jH ρ hfl2).Lf (fun h=>by cases h)
      refine ia.val (v':=.slice (some ⟨w.heap.size,0,none⟩) l1 c1) ?_ ?_ hpost
      ·rw[hk,hk',tT hel hti hzv hts hb1 (by rw[htb];exact hb2) hb3 hz0 hzs,hzl',pO]
      ·exact VRel.slice (o:=0) hn hb1 (fun h=>by unfold UNK at h;omega) (fun _=>rfl) (by unfold VAG;omega)
  ·cases ht
 ·rename_i t x x'
  replace h:rh m n (ev e x')=.ok v m' n' r wm:=h
  simp only[Bool.and_eq_true,beq_iff_eq]at hchk
  obtain⟨v',hr,hv,rfl,rfl,rfl⟩:=Cy hchk.1 hm (dq he hchk.2) h hag
  exact ia.pure hm hr hv
 ·rename_i t x k x'
  replace h:vR k m n (ev e x')=.ok v m' n' r wm:=h
  simp only[Bool.and_eq_true,beq_iff_eq]at hchk
  obtain⟨v',hr,hv,rfl,rfl,rfl⟩:=Cx hchk.1.1 hchk.1.2 hm (dq he hchk.2) h hag
  exact ia.pure hm hr hv
 ·rename_i t x y k x' y'
  replace h:stV k (ev e y').cells.toList m n (ev e x')=.ok v m' n' r wm:=h
  simp only[Bool.and_eq_true]at hchk
  obtain⟨rfl,w',hr,hpost⟩:=Fq hchk.1.1 hm (dq he hchk.1.2) (dq he hchk.2) h hag
  exact⟨.skip,w',ρ,by simp[execOp,hr],.inr ⟨rfl,rfl⟩,hpost⟩
 ·rename_i args ts sz bytes x' y'
  replace h:jq sz bytes m n (ev e x') (ev e y') (shown m n sz (ev e x')) (shown m n sz (ev e y'))=.ok v m' n' r wm:=h
  split at hchk
  ·rename_i x y t u hargs hts
   simp only[Bool.and_eq_true]at hchk
   obtain⟨⟨hx,hy⟩,ht⟩:=hchk
   have hargs:args=#[x,y]:=by apply Array.ext';simpa using hargs
   have hts:ts=#[t,u]:=by apply Array.ext';simpa using hts
   subst hargs;subst hts
   split at ht
   ·rename_i el el2 hel hel2
    simp only[Bool.and_eq_true]at ht
    obtain⟨⟨⟨hsz,hby⟩,_⟩,hz⟩:=ht
    obtain⟨ti,hti,hts⟩:=fM hsz
    obtain⟨ti2,hti2,htb⟩:=rZ hby
    have:ti=ti2:=by rw[hti]at hti2;injection hti2
    subst this
    rw[hti]at hz
    simp only at hz
    split at hz
    ·rename_i zv hzv
     have hzs:zv.cells.size=sz:=by simpa using hz
     obtain⟨v',w',ρ',hr,hv,hpost⟩:=Dc (P:=P) (ty:=ty) hm h hag hfree hel hel2 hti hzv hts hzs htb (dq he hx) (dq he hy)
     exact⟨.value v',w',ρ',by simp[execOp,resolve,invoke,builtin,hr],.inl ⟨_,rfl,hv⟩,hpost⟩
    ·cases hz
   ·cases ht
  ·cases hchk
 ·rename_i f args ts g args'
  exact absurd rfl (hnc.1 g args')
 ·rename_i f args ts x args'
  exact absurd rfl (hnc.2 x args')
 ·rename_i t x i x' i'
  replace h:eG m n (Option.rec (motive:=fun _=>Option Value) none (fun i=>CW i (ev e x')) (eN (ev e i')))=.ok v m' n' r wm:=h
  have h0:=eD h
  clear h
  obtain⟨h,rfl,rfl,rfl,rfl⟩:=h0
  rw[Bool.and_eq_true,Bool.and_eq_true]at hchk
  obtain⟨⟨ht,hx⟩,hi⟩:=hchk
  cases hn:eN (ev e i')with
  |none=>rw[hn]at h;cases h
  |some k=>
   rw[hn]at h
   obtain⟨ik,hik⟩:=gE (dq he hi) hn
   obtain⟨v',hr,hv⟩:=CV (w:=w) (k:=ik) ht (dq he hx) h
   refine ia.pure (v':=v') hm ?_ hv
   rw[hik];exact hr
 ·rename_i t x i n0 x' i'
  replace h:eG m n (Option.rec (motive:=fun _=>Option Value) none (fun i=>Ld n0 i (ev e x')) (eN (ev e i')))=.ok v m' n' r wm:=h
  have h0:=eD h
  clear h
  obtain⟨h,rfl,rfl,rfl,rfl⟩:=h0
  rw[Bool.and_eq_true,Bool.and_eq_true]at hchk
  obtain⟨⟨ht,hx⟩,hi⟩:=hchk
  cases hn:eN (ev e i')with
  |none=>rw[hn]at h;cases h
  |some k=>
   rw[hn]at h
   obtain⟨ik,hik⟩:=gE (dq he hi) hn
   obtain⟨v',hr,hv⟩:=CC (w:=w) (k:=ik) ht (dq he hx) h
   refine ia.pure (v':=v') hm ?_ hv
   rw[hik];exact hr
 ·rename_i t x f off x'
  replace h:eG m n (F2 off (ev e x'))=.ok v m' n' r wm:=h
  have h0:=eD h
  clear h
  obtain⟨h,rfl,rfl,rfl,rfl⟩:=h0
  rw[Bool.and_eq_true]at hchk
  obtain⟨v',hr,hv⟩:=CK (w:=w) hchk.1 (dq he hchk.2) h
  exact ia.pure hm hr hv
 ·rename_i t x lo hi x' a' b'
  replace h:eG m n (zG (eN (ev e a')) (eN (ev e b')) (ev e x'))=.ok v m' n' r wm:=h
  simp only[Bool.and_eq_true]at hchk
  obtain⟨⟨⟨ht,hx⟩,hlo⟩,hhi⟩:=hchk
  exact tF hm ht (dq he hx) (by cases lo with|none=>cases hlo|some l=>exact .inr ⟨_,_,rfl,rfl,dq he hlo⟩) (by cases hi with|none=>cases hhi|some l=>exact .inr ⟨_,_,rfl,rfl,dq he hhi⟩) h
 ·rename_i t x lo hi x' a'
  replace h:eG m n (zG (eN (ev e a')) (GQ (ev e x')) (ev e x'))=.ok v m' n' r wm:=h
  simp only[Bool.and_eq_true]at hchk
  obtain⟨⟨⟨ht,hx⟩,hlo⟩,hhi⟩:=hchk
  exact tF hm ht (dq he hx) (by cases lo with|none=>cases hlo|some l=>exact .inr ⟨_,_,rfl,rfl,dq he hlo⟩) (by cases hi with|none=>exact .inl ⟨rfl,rfl⟩|some l=>cases hhi) h
 ·rename_i t x lo hi x' b'
  replace h:eG m n (zG (some 0) (eN (ev e b')) (ev e x'))=.ok v m' n' r wm:=h
  simp only[Bool.and_eq_true]at hchk
  obtain⟨⟨⟨ht,hx⟩,hlo⟩,hhi⟩:=hchk
  exact tF hm ht (dq he hx) (by cases lo with|none=>exact .inl ⟨rfl,rfl⟩|some l=>cases hlo) (by cases hi with|none=>cases hhi|some l=>exact .inr ⟨_,_,rfl,rfl,dq he hhi⟩) h
 ·rename_i op1 t x y kk op' t' x' y'
  replace h:eG m n (mq P op' t' (ev e x') (ev e y'))=.ok v m' n' r wm:=h
  have h0:=eD h
  clear h
  obtain⟨h,rfl,rfl,rfl,rfl⟩:=h0
  simp only[Bool.and_eq_true,beq_iff_eq]at hchk
  obtain⟨⟨⟨rfl,rfl⟩,hx⟩,hy⟩:=hchk
  obtain⟨v',hr,hv⟩:=C4 (w:=w) (dq he hx) (dq he hy) h x y
  exact ia.pure hm hr hv
 ·rename_i op1 t x y kk op' t' x'
  replace h:eG m n (Lb P op' t' (ev e x'))=.ok v m' n' r wm:=h
  have h0:=eD h
  clear h
  obtain⟨h,rfl,rfl,rfl,rfl⟩:=h0
  simp only[Bool.and_eq_true,beq_iff_eq]at hchk
  obtain⟨⟨⟨rfl,rfl⟩,hy⟩,hx⟩:=hchk
  split at hy
  ·obtain⟨v',hr,hv⟩:=CA (w:=w) (dq he hx) h x
   exact ia.pure hm hr hv
  ·cases hy
 ·rename_i t
  replace h:kZ m n (.map []) mapP=.ok v m' n' r wm:=h
  unfold kZ at h
  cases hl:AMem.lim m n
  ·rw[hl,cond_false]at h;cases h
  ·rw[hl,cond_true]at h
   injection h with e1 e2 e3 e4 e5;subst e1;subst e2;subst e3;subst e4;subst e5
   obtain⟨ρ',hn,hpost⟩:=Post.new (n':=Nat.succ n) hm hl hfree (.map []) (.map #[] 0) 0 (fun ρ' _=>⟨hm.le,#[],0,heap_alloc w _,rfl,dO.nil ρ',⟨fun x hx=>by simp at hx,by simp⟩⟩) rfl
   refine ia.val (v':=.map (some w.heap.size)) (w':=w.alloc (.map #[] 0)) ?_ (VRel.map hn) hpost
   simp only[Instr.makeMap,Option.map_none,Sem.run_bind,newObj];rfl
 ·rename_i t x i ok kt z ok' x' i'
  simp only[Bool.and_eq_true,beq_iff_eq]at hchk
  obtain⟨⟨⟨rfl,ht⟩,hx⟩,hi⟩:=hchk
  have hxr:=dq he hx
  have hir:=dq he hi
  split at ht
  ·rename_i k el hel
   simp only[Bool.and_eq_true,beq_iff_eq]at ht
   obtain⟨rfl,hz⟩:=ht
   unfold Eo at hz
   split at hz
   ·rename_i ti hti
    split at hz
    ·rename_i zv hzv
     simp only[Bool.and_eq_true]at hz
     obtain⟨hze,hzf⟩:=hz
     have hze:=BS hze
     subst hze
     replace h:cond (du (ev e i')) (match ev e x' with
      | .map none=>eG m n (wR ok zv [] (gk P true k (ev e i') []))
      | .map (some b)=>kG P k zv ok m n b (ev e i') (fg m n b)
      |_=>.no) .no=.ok v m' n' r wm:=h
     cases hf:du (ev e i')
     ·rw[hf,cond_false]at h;cases h
     rw[hf,cond_true]at h
     have hiv:=hir.nY hf
     split at h
     ·rename_i hxe
      have h0:=eD h
      clear h
      obtain⟨h,rfl,rfl,rfl,rfl⟩:=h0
      rw[hxe]at hxr
      have e0:=hxr.dN rfl
      cases hk:gk P true k (ev e i') []with
      |none=>rw[hk]at h;cases h
      |some rr=>
       rw[hk]at h
       obtain⟨v',hv,hv'⟩:=wP (ρ:=ρ) (es:=[]) (es':=[]) hzf (dO.nil ρ) h
       refine ia.pure (v':=v') hm ?_ hv
       rw[hv',e0,hiv]
       exact tU (es':=#[]) hel hti hzv (.inl ⟨rfl,rfl⟩) hk
     ·rename_i b hxe
      unfold kG at h
      split at h
      ·rename_i es hg
       have h0:=sU h
       clear h
       obtain⟨h,rfl,rfl,rfl,rfl⟩:=h0
       rw[hxe]at hxr
       cases hk:gk P es.isEmpty k (ev e i') (es.map (·.1))with
       |none=>rw[hk]at h;cases h
       |some rr=>
        rw[hk]at h
        generalize hxv:a.eval x=xv at hxr
        cases hxr with
        |flat hfl=>simp[flat]at hfl
        |map hp=>
         obtain⟨_,hB,es',cl,hg',hkeys,hvals,_⟩:=uv hm hag (by rw[c9,dn];simp) hg hp
         obtain⟨v',hv,hv'⟩:=wP hzf hvals h
         have hemp:es.isEmpty=es'.isEmpty:=by
          have:=congrArg List.length hkeys
          simp at this
          cases es with
          |nil=>simp at this;simp[Array.isEmpty,this]
          |cons a l=>simp at this;simp[Array.isEmpty,this]
         rw[hemp,<-hkeys]at hk
         refine ia.pure (v':=v') hm ?_ hv
         rw[hv',hxv,hiv]
         exact tU hel hti hzv (.inr ⟨_,cl,rfl,hg'⟩) hk
      ·cases h
     ·cases h
    ·cases hz
   ·cases hz
  ·cases ht
 ·rename_i t x k y kt x' k' y'
  simp only[Bool.and_eq_true]at hchk
  obtain⟨⟨⟨ht,hx⟩,hk0⟩,hy⟩:=hchk
  split at ht
  ·rename_i kt' el hel
   have ht:kt'=kt:=by simpa using ht
   subst ht
   obtain⟨w',ρ',hrun,hp⟩:=zu (a:=a) hel hm hag (dq he hx) (dq he hk0) (dq he hy) h
   obtain⟨rfl,hpost⟩:=hp
   exact⟨.skip,w',ρ',by simp[execOp,hrun,Result.andThen],.inr ⟨rfl,rfl⟩,hpost⟩
  ·cases ht
 ·rename_i t x k y kt x' k' y'
  simp only[Bool.and_eq_true]at hchk
  obtain⟨⟨⟨ht,hx⟩,hk0⟩,hy⟩:=hchk
  split at ht
  ·rename_i kt' el hel
   have ht:kt'=kt:=by simpa using ht
   subst ht
   obtain⟨w',ρ',hrun,hp⟩:=zu (a:=a) hel hm hag (dq he hx) (dq he hk0) (dq he hy) h
   obtain⟨rfl,hpost⟩:=hp
   exact⟨.skip,w',ρ',by simp[execOp,hrun,Result.andThen],.inr ⟨rfl,rfl⟩,hpost⟩
  ·cases ht
 ·rename_i args ts kt x' k'
  split at hchk
  ·rename_i x k t hargs hts
   simp only[Bool.and_eq_true]at hchk
   obtain⟨⟨hx,hk0⟩,ht⟩:=hchk
   have hargs:args=#[x,k]:=by apply Array.ext';simpa using hargs
   subst hargs
   have hxr:=dq he hx
   have hkr:=dq he hk0
   split at ht
   ·rename_i kt' el hel
    have ht:kt'=kt:=by simpa using ht
    subst ht
    replace h:cond (du (ev e k')) (match ev e x' with
     | .map (some b)=>Io P kt' m n b (ev e k') (fg m n b)
     |_=>.no) .no=.ok v m' n' r wm:=h
    cases hf:du (ev e k')
    ·rw[hf,cond_false]at h;cases h
    rw[hf,cond_true]at h
    have hkv:=hkr.nY hf
    split at h
    ·rename_i b hxe
     unfold Io at h
     split at h
     ·rename_i es hg
      unfold yl at h
      split at h
      ·rename_i es1 he1
       injection h with e1 e2 e3 e4 e5;subst e1;subst e2;subst e3;subst e4;subst e5
       rw[hxe]at hxr
       cases hk:gk P es.isEmpty kt' (ev e k') (es.map (·.1))with
       |none=>rw[hk]at he1;cases he1
       |some rr=>
        rw[hk]at he1
        generalize hxv:a.eval x=xv at hxr
        cases hxr with
        |flat hfl=>simp[flat]at hfl
        |map hp=>
         rename_i p
         obtain⟨hV,hB⟩:=uv hm hag (by rw[c9,dn];simp) hg hp
         obtain⟨w',hrun,hb',hother,hos,htape,hout,hsize⟩:=F8 (ty:=ty) hts hel hB hk he1
         refine⟨.value undef,w',ρ,?_,.inl ⟨_,rfl,VRel.undef ρ⟩,Post.Gx hm (AMem.get_lim _ _ _ (dP hg).2) hp hV rfl rfl hB.1 hb' hother hos htape hout hsize⟩
         simp[execOp,resolve,invoke,builtin,hxv,hkv,hrun,Result.andThen]
      ·cases h
     ·cases h
    ·cases h
   ·cases ht
  ·cases hchk
 ·rename_i s d x x'
  simp only[Bool.and_eq_true]at hchk
  obtain⟨ht,hx⟩:=hchk
  have hxr:=dq he hx
  replace h:(match ev e x' with
   | .slice (some ⟨b,o,none⟩) (l+1) _=>GJ m n b o (l+1) (fg m n b)
   |_=>.no)=.ok v m' n' r wm:=h
  split at h
  ·rename_i b o l c hxe
   unfold GJ at h
   split at h
   ·rename_i cs sz opn wr hg
    cases hz:Nat.beq sz 1
    ·rw[hz]at h;cases h
    ·rw[hz,cond_true]at h
     have hsz:=Nat.eq_of_beq_eq_true hz
     subst hsz
     unfold strV at h
     split at h
     ·rename_i xs hxs
      split at h
      ·rename_i zs hzs
       have h:OR.ok (Value.string (strOf zs)) m n (bit b) 0=.ok v m' n' r wm:=h
       injection h with e1 e2 e3 e4 e5
       subst e1;subst e2;subst e3;subst e4;subst e5
       rw[hxe]at hxr
       generalize hxv:a.eval x=xv at hxr
       cases hxr with
       |flat hf=>simp[flat]at hf
       |slice hp hn hu hk hv=>
        rename_i c' p
        obtain⟨_,hb⟩:=fo hm hag (by rw[c9,dn];simp) hg hp
        obtain⟨l',hr,hlen,hcell⟩:=j6 hb hxs
        have hl':l'=zs.map (Value.int .u8):=by
         rw[<-tD hzs]
         exact(dO.qh hr (by rw[tD hzs];exact Kv zs))
        have hload:=run_loadCells_list (P:=P) w ⟨p.blk,p.base+o,none⟩ l' (fun j v hv=>(hcell j v hv).2)
        rw[hlen,hl']at hload
        have hbs:=run_bytesToString (P:=P) w ⟨p.blk,p.base+o,none⟩ (l+1) c' zs hload
        split at ht
        ·rename_i el hs hd
         split at ht
         ·rename_i hel
          refine⟨.value (.string (strOf zs)),w,ρ,?_,.inl ⟨_,rfl,.flat rfl⟩,Post.same hm _ _⟩
          have hconv:(convert s d (.slice (some ⟨p.blk,p.base+o,none⟩) (l+1) c')).run P w=.ok (.string (strOf zs)) w:=by
           simp only[convert,Sem.run_bind,run_underlying hs,run_underlying hd,Result.andThen_ok,run_underlying hel]
           exact hbs
          simp[execOp,hxv,hconv,Result.andThen]
         ·cases ht
        ·cases ht
      ·cases h
     ·cases h
   ·cases h
  ·cases h
 ·rename_i args ts x' y'
  replace h:eG m n (mnV (ev e x') (ev e y'))=.ok v m' n' r wm:=h
  have h0:=eD h
  clear h
  obtain⟨h,rfl,rfl,rfl,rfl⟩:=h0
  split at hchk
  ·rename_i x y hargs
   simp only[Bool.and_eq_true]at hchk
   have hargs:args=#[x,y]:=by apply Array.ext';simpa using hargs
   subst hargs
   obtain⟨v',hr,hv⟩:=FO (P:=P) (w:=w) ts ty (dq he hchk.1) (dq he hchk.2) h
   refine⟨.value v',w,ρ,?_,.inl ⟨_,rfl,hv⟩,Post.same hm _ _⟩
   simp[execOp,resolve,invoke,builtin,hr]
  ·cases hchk
 ·rename_i args ts sz x' y'
  split at hchk
  ·rename_i x y t hargs hts
   simp only[Bool.and_eq_true]at hchk
   obtain⟨⟨hx,hy⟩,ht⟩:=hchk
   have hargs:args=#[x,y]:=by apply Array.ext';simpa using hargs
   subst hargs
   have hxr:=dq he hx
   have hyr:=dq he hy
   split at ht
   ·rename_i el hel
    obtain⟨ti,hti,hts'⟩:=fM ht
    replace h:CQ sz m n (shown m n sz (ev e y')) (ev e x') (ev e y')=.ok v m' n' r wm:=h
    generalize hxe:ev e x'=xm at h hxr
    generalize hye:ev e y'=ym at h hyr
    generalize hxv:a.eval x=xv at hxr
    generalize hyv:a.eval y=yv at hyr
    unfold CQ at h
    split at h
    ·rename_i b o l c a2 k c2
     split at h
     ·rename_i q hq
      cases hc:(Nat.ble k l&&Nat.blt 0 k)
      ·rw[hc,cond_false]at h;cases h
      rw[hc,cond_true]at h
      rw[Bool.and_eq_true]at hc
      have hkl:=Nat.le_of_ble_eq_true hc.1
      have hk0:0<k:=Nat.le_of_ble_eq_true hc.2
      unfold Lx at h
      split at h
      ·rename_i cs s opn hg
       cases hb:(Nat.beq s sz&&q.1.all one)
       ·rw[hb,cond_false]at h;cases h
       rw[hb,cond_true]at h
       rw[Bool.and_eq_true]at hb
       obtain rfl:=Nat.eq_of_beq_eq_true hb.1
       unfold qR at h
       split at h
       ·rename_i c' hs
        injection h with e1 e2 e3 e4 e5
        subst e1;subst e2;subst e3;subst e4;subst e5
        obtain⟨a',c3,rfl⟩:=kn hyr
        obtain⟨q1,q2⟩:=q
        obtain⟨l',hlr,hll,hfc⟩:=mM (P:=P) hm hyr hq hag (fun j hj=>by rw[c9,c9];simp[hj])
        cases hxr with
        |flat hf=>simp[flat]at hf
        |vag=>omega
        |slice hp g1 g2 g3 g4=>
         rename_i c4 p
         obtain⟨hV,hbr⟩:=fo hm hag (by rw[c9,c9,dn];simp) hg hp
         have hone:∀v∈l',v.oneCell'=true:=by
          intro v hv
          obtain⟨j,hj,rfl⟩:=List.getElem_of_mem hv
          have hj':j<q1.length:=by rw[hlr.1];exact hj
          have:=hlr.2 j _ _ (List.getElem?_eq_getElem hj') (List.getElem?_eq_getElem hj)
          refine this.one ?_
          have h2:=hb.2
          rw[List.all_eq_true]at h2
          exact h2 _ (List.getElem_mem hj')
         obtain⟨w',hw,hb',ho,h1,h2,h3,h4⟩:=uZ (P:=P) hbr hs hlr hone
         refine⟨.value (.int .i64 (k:Int)),w',ρ,?_,.inl ⟨_,rfl,.int ρ _ _⟩,Post.write hm (AMem.get_lim _ _ _ (dP hg).2) hp hV hb' ho h1 h2 h3 h4⟩
         have hmin:Nat.min k l=k:=Nat.min_eq_left hkl
         have hfc':=hfc ti.size w hts' rfl
         simp[execOp,resolve,invoke,builtin,Builtin.copy_,hts,hxv,hyv,run_underlying hel,Builtin.lenOf,run_sizeOf hti,hmin,hfc',hw,goInt,Result.andThen]
       ·cases h
      ·cases h
     ·cases h
    ·cases h
   ·cases ht
  ·cases hchk
 ·rename_i t x k x'
  replace h:eG m n (C9 k (ev e x'))=.ok v m' n' r wm:=h
  have h0:=eD h
  clear h
  obtain⟨h,rfl,rfl,rfl,rfl⟩:=h0
  simp only[Bool.and_eq_true]at hchk
  obtain⟨hchk,hx⟩:=hchk
  split at hchk
  ·rename_i k' el ht
   simp only[Bool.and_eq_true,beq_iff_eq,Option.isSome_iff_exists]at hchk
   obtain⟨rfl,i,hi⟩:=hchk
   obtain⟨v',hr,hv⟩:=C8 (P:=P) (w:=w) ht hi (dq he hx) h
   refine⟨.value v',w,ρ,?_,.inl ⟨_,rfl,hv⟩,Post.same hm _ _⟩
   simp[execOp,hr]
  ·cases hchk
 ·rename_i t x k x'
  replace h:eG m n (FE k (ev e x'))=.ok v m' n' r wm:=h
  have h0:=eD h
  clear h
  obtain⟨h,rfl,rfl,rfl,rfl⟩:=h0
  simp only[Bool.and_eq_true]at hchk
  obtain⟨hchk,hx⟩:=hchk
  split at hchk
  ·rename_i k' el ht
   simp only[beq_iff_eq]at hchk
   subst hchk
   obtain⟨v',hr,hv⟩:=B5 (P:=P) (w:=w) ht (dq he hx) h
   refine⟨.value v',w,ρ,?_,.inl ⟨_,rfl,hv⟩,Post.same hm _ _⟩
   simp[execOp,hr]
  ·cases hchk
 ·rename_i t g g' cs
  replace h:eG m n (gldV cs)=.ok v m' n' r wm:=h
  have h0:=eD h
  clear h
  obtain⟨h,rfl,rfl,rfl,rfl⟩:=h0
  injection h with h
  subst h
  simp only[Bool.and_eq_true,beq_iff_eq]at hchk
  obtain⟨⟨⟨⟨rfl,h1⟩,h2⟩,h3⟩,h4⟩:=hchk
  refine⟨.value (.agg cs.toArray),w,ρ,?_,.inl ⟨_,rfl,gN ρ (by show cs.toArray.toList.all flat=true;simpa using h3)⟩,Post.same hm _ _⟩
  have hr:=FV (P:=P) h1 h2 hm (by simpa using h4)
  have he':a.eval (Operand.global g)=.pointer (some ⟨g,0,none⟩):=rfl
  simp[execOp,he',hr]
 ·cases hchk
end
section
variable{μ:Type}[AMem μ]{P:Program}
structure Loc(m:μ)(n:Nat)(m':μ)(n' W:Nat):Prop where
 num:n<=n'
 same:∀b,W.testBit b=false->AMem.get m' b=AMem.get m b
 made:∀b,n<=b->b<n'->W.testBit b=true
theorem Loc.refl(m:μ)(n:Nat):Loc m n m n 0:=⟨Nat.le_refl _,fun _ _=>rfl,fun b h1 h2=>by omega⟩
theorem Loc.trans{m m1 m2:μ}{n n1 n2 w1 w2:Nat}(h:Loc m n m1 n1 w1)(k:Loc m1 n1 m2 n2 w2):Loc m n m2 n2 (Nat.lor w1 w2):=
 ⟨Nat.le_trans h.num k.num,fun b hb=>by
  rw[c9,Bool.or_eq_false_iff]at hb
  rw[k.same b hb.2,h.same b hb.1],fun b h1 h2=>by
  rw[c9]
  by_cases hb:b<n1
  ·rw[h.made b h1 hb];rfl
  ·rw[k.made b (by omega) h2];simp⟩
theorem yG{m:μ}{n b:Nat}(x:Option Blk)(hl:AMem.lim m b=true):Loc m n (AMem.put m b x) n (bit b):=
 ⟨Nat.le_refl _,fun k hk=>by rw[AMem.get_put m b k x hl,if_neg];intro e;subst e;rw[dn]at hk;simp at hk,fun k h1 h2=>by omega⟩
theorem kH{m:μ}{n:Nat}(x:Option Blk)(hl:AMem.lim m n=true):Loc m n (AMem.put m n x) (Nat.succ n) (bit n):=
 ⟨Nat.le_succ _,fun k hk=>by rw[AMem.get_put m n k x hl,if_neg];intro e;subst e;rw[dn]at hk;simp at hk,fun k h1 h2=>by
  have:k=n:=by omega
  subst this;rw[dn];simp⟩
theorem ng{m m':μ}{n n' r wm:Nat}{O:Blk}{f:Nat->Value}{v:Value}(h:kZ m n O f=.ok v m' n' r wm):Loc m n m' n' wm:=by
 unfold kZ at h
 cases hl:AMem.lim m n
 ·rw[hl,cond_false]at h;cases h
 ·rw[hl,cond_true]at h;injection h with e1 e2 e3 e4 e5;subst e2;subst e3;subst e5;exact kH _ hl
theorem fi{m m':μ}{n n' r wm:Nat}{x:Option Value}{v:Value}(h:eG m n x=.ok v m' n' r wm):Loc m n m' n' wm:=by
 obtain⟨_,rfl,rfl,_,rfl⟩:=eD h;exact Loc.refl _ _
theorem mI{m m':μ}{n n' r wm b:Nat}{x:Option Value}{v:Value}(h:lP m n b x=.ok v m' n' r wm):Loc m n m' n' wm:=by
 obtain⟨_,rfl,rfl,_,rfl⟩:=sU h;exact Loc.refl _ _
omit [AMem μ] in
theorem lO{B:Option Blk}{f:List Value->OR μ}{v:Value}{m':μ}{n' r wm:Nat}(h:iq B f=.ok v m' n' r wm):∃c,f c=.ok v m' n' r wm:=by
 cases B with
 |none=>cases h
 |some B=>cases B with
  |cells c sz opn wr=>exact⟨c,h⟩
  |map es=>cases h
theorem uc{m m':μ}{n n' r r0 wm b sz:Nat}{opn:Bool}{v0 v:Value}{c:Option (List Value)}(hb:AMem.lim m b=true)(h:qR m n b sz opn v0 r0 c=.ok v m' n' r wm):Loc m n m' n' wm:=by
 unfold qR at h;split at h
 ·injection h with e1 e2 e3 e4 e5;subst e2;subst e3;subst e5;exact yG _ hb
 ·cases h
theorem BH{m m':μ}{n n' r r0 wm sz len:Nat}{c:List Value}{v:Value}(h:vu m n sz len c r0=.ok v m' n' r wm):Loc m n m' n' wm:=by
 unfold vu at h
 cases hl:AMem.lim m n
 ·rw[hl,cond_false]at h;cases h
 ·rw[hl,cond_true]at h;injection h with e1 e2 e3 e4 e5;subst e2;subst e3;subst e5;exact kH _ hl
theorem zX{m m':μ}{n n' r wm b:Nat}{v:Value}{es:Option (List (Value×Value))}(hb:AMem.lim m b=true)(h:yl m n b es=.ok v m' n' r wm):Loc m n m' n' wm:=by
 unfold yl at h;split at h
 ·injection h with e1 e2 e3 e4 e5;subst e2;subst e3;subst e5;exact yG _ hb
 ·cases h
omit [AMem μ] in
theorem Bf{c:Bool}{x:OR μ}{v:Value}{m':μ}{n' r w:Nat}(h:cond c x .no=.ok v m' n' r w):x=.ok v m' n' r w:=by
 cases c
 ·cases h
 ·exact h
theorem Iv{m m':μ}{n n' r wm sz:Nat}{v x y:Value}{p:Option (List Value×Nat)}(h:CQ sz m n p x y=.ok v m' n' r wm):Loc m n m' n' wm:=by
 unfold CQ at h
 split at h
 ·split at h
  ·replace h:=Bf h
   unfold Lx at h
   split at h
   ·rename_i hg
    replace h:=Bf h
    exact uc (AMem.get_lim _ _ _ (dP hg).2) h
   ·cases h
  ·cases h
 ·cases h
theorem HI{m m':μ}{n n' r wm:Nat}{v:Value}{op:MOp}{xs:List Value}(h:uw P op xs m n=.ok v m' n' r wm):Loc m n m' n' wm:=by
 unfold uw at h
 split at h
 ·exact ng h
 ·rename_i kt z ok x k
  cases hf:du k
  ·rw[hf,cond_false]at h;cases h
  ·rw[hf,cond_true]at h
   split at h
   ·exact fi h
   ·unfold kG at h
    split at h
    ·exact mI h
    ·cases h
   ·cases h
 ·rename_i kt x k y
  cases hf:du k
  ·rw[hf,cond_false]at h;cases h
  ·rw[hf,cond_true]at h
   split at h
   ·unfold Fl at h
    split at h
    ·rename_i hg;exact zX (AMem.get_lim _ _ _ (dP hg).2) h
    ·cases h
   ·cases h
 ·rename_i kt x k
  cases hf:du k
  ·rw[hf,cond_false]at h;cases h
  ·rw[hf,cond_true]at h
   split at h
   ·unfold Io at h
    split at h
    ·rename_i hg;exact zX (AMem.get_lim _ _ _ (dP hg).2) h
    ·cases h
   ·cases h
 ·split at h
  ·unfold GJ at h
   split at h
   ·rename_i c sz opn wr hg
    cases hz:Nat.beq sz 1
    ·rw[hz]at h;cases h
    ·rw[hz]at h;exact mI h
   ·cases h
  ·cases h
 ·exact Iv h
 ·cases h
theorem pE{e:List Value}{m m':μ}{n n' r wm:Nat}{v:Value}{rec:Nat->List Value->μ->Nat->OR μ}{x:AOp}(hrec:∀f args m n v m' n' r wm,rec f args m n=.ok v m' n' r wm->Loc m n m' n' wm)
  (h:dJ P rec e m n x=.ok v m' n' r wm):Loc m n m' n' wm:=by
 cases x with
 |mov x=>injection h with e1 e2 e3 e4 e5;subst e2;subst e3;subst e5;exact Loc.refl _ _
 |func f a c=>injection h with e1 e2 e3 e4 e5;subst e2;subst e3;subst e5;exact Loc.refl _ _
 |pick c a b=>exact fi h
 |bin op t x y=>exact fi h
 |una op x=>exact fi h
 |conv k x=>exact fi h
 |fld off x=>exact fi h
 |idx sz x i=>exact fi h
 |ida k sz x i=>exact fi h
 |build z ps=>exact fi h
 |extr i x=>exact fi h
 |nilck x=>exact fi h
 |len s x=>exact fi h
 |mx x y=>exact fi h
 |pur op xs=>exact fi h
 |mp op xs=>exact HI h
 |slc sz x lo hi=>
  replace h:kP m n sz (jK sz (oev e lo) (oev e hi) (ev e x)) (ev e x)=.ok v m' n' r wm:=h
  unfold kP at h
  split at h
  ·rename_i b o ln c hx
   cases hc:Nat.beq c UNK
   ·rw[hc,cond_false]at h;exact fi h
   ·rw[hc,cond_true]at h
    cases hz:zE sz (fg m n b)
    ·rw[hz,cond_false]at h;cases h
    ·rw[hz,cond_true]at h;exact mI h
  ·exact fi h
 |new c=>exact ng h
 |box x=>exact ng h
 |mkl sz len z ps=>
  replace h:Ap m n sz len (jW (iV sz e ps) (mE z len))=.ok v m' n' r wm:=h
  unfold Ap at h;split at h
  ·exact ng h
  ·cases h
 |make sz bytes z l c=>
  replace h:rX sz bytes z m n (eN (ev e l)) (eN (ev e c))=.ok v m' n' r wm:=h
  unfold rX at h;split at h
  ·rename_i l1 c1 _ _
   cases hb:(Nat.ble l1 c1&&Nat.ble (Nat.mul c1 bytes) 281474976710656&&Nat.ble c1 1099511627776)
   ·rw[hb,cond_false]at h;cases h
   ·rw[hb,cond_true]at h;exact ng h
  ·cases h
 |ld1 x=>
  replace h:rh m n (ev e x)=.ok v m' n' r wm:=h
  unfold rh at h;split at h
  ·obtain⟨c,h⟩:=lO h;exact mI h
  ·cases h
 |ldn k x=>
  replace h:vR k m n (ev e x)=.ok v m' n' r wm:=h
  unfold vR at h;split at h
  ·obtain⟨c,h⟩:=lO h;exact mI h
  ·cases h
 |st k x y=>
  replace h:stV k (ev e y).cells.toList m n (ev e x)=.ok v m' n' r wm:=h
  unfold stV at h;split at h
  ·rename_i b o hx
   cases hc:(Nat.beq (gx (ev e y).cells.toList) k&&(ev e y).cells.toList.all one)
   ·rw[hc,cond_false]at h;cases h
   ·rw[hc,cond_true]at h
    unfold stC at h;split at h
    ·rename_i hg;exact uc (AMem.get_lim _ _ _ (dP hg).2) h
    ·cases h
  ·cases h
 |app sz bytes x y=>
  replace h:jq sz bytes m n (ev e x) (ev e y) (shown m n sz (ev e x)) (shown m n sz (ev e y))=.ok v m' n' r wm:=h
  unfold jq at h;split at h
  ·rename_i a b _ _
   unfold Da at h;split at h
   ·rename_i ax lx cx ay ly cy hx hy
    cases hc:(b.1.all one&&Nat.blt 0 sz&&Nat.blt 0 bytes&&Nat.ble (Nat.mul (Nat.add lx ly) bytes) 140737488355328)
    ·rw[hc,cond_false]at h;cases h
    ·rw[hc,cond_true]at h
     unfold yW at h;split at h
     ·cases hl:Nat.beq ly 0
      ·rw[hl,cond_false]at h;exact BH h
      ·rw[hl,cond_true]at h;injection h with e1 e2 e3 e4 e5;subst e2;subst e3;subst e5;exact Loc.refl _ _
     ·rename_i bx ox
      cases hv:Nat.beq cx VAG
      ·rw[hv,cond_false]at h
       cases hu:Nat.beq cx UNK
       ·rw[hu,cond_false]at h
        cases hl:Nat.ble (Nat.add lx ly) cx
        ·rw[hl,cond_false]at h;exact BH h
        ·rw[hl,cond_true]at h
         unfold Gk at h;split at h
         ·rename_i hg;exact uc (AMem.get_lim _ _ _ (dP hg).2) h
         ·cases h
       ·rw[hu,cond_true]at h
        unfold rq at h;split at h
        ·rename_i c s hg
         cases hl:(AMem.lim m n&&Nat.beq s sz)
         ·rw[hl,cond_false]at h;cases h
         ·rw[hl,cond_true]at h;injection h with e1 e2 e3 e4 e5;subst e2;subst e3;subst e5
          rw[Bool.and_eq_true]at hl
          exact(yG _ (AMem.get_lim _ _ _ (dP hg).2)).trans (kH _ (by rw[AMem.lim_put];exact hl.1))
        ·cases h
      ·rw[hv,cond_true]at h;cases h
     ·cases h
   ·cases h
  ·cases h
 |call f args=>exact hrec _ _ _ _ _ _ _ _ _ h
 |callv x args=>
  replace h:ju rec (evs e args) m n (ev e x)=.ok v m' n' r wm:=h
  unfold ju at h;split at h
  ·exact hrec _ _ _ _ _ _ _ _ _ h
  ·cases h
omit [AMem μ] in
theorem pR{x:OR μ}{f:Value->μ->Nat->Nat->Nat->CR μ}{X:AX}{e':List Value}{m':μ}{n' r wm:Nat}(h:gq x f=.ok X e' m' n' r wm):∃v m1 n1 r1 w1,x=.ok v m1 n1 r1 w1/\f v m1 n1 r1 w1=.ok X e' m' n' r wm:=by
 cases x with
 |no=>cases h
 |ok v m1 n1 r1 w1=>exact⟨v,m1,n1,r1,w1,rfl,h⟩
omit [AMem μ] in
theorem fj{x:CR μ}{f:AX->List Value->μ->Nat->Nat->Nat->CR μ}{X:AX}{e':List Value}{m':μ}{n' r wm:Nat}(h:fY x f=.ok X e' m' n' r wm):∃X1 e1 m1 n1 r1 w1,x=.ok X1 e1 m1 n1 r1 w1/\f X1 e1 m1 n1 r1 w1=.ok X e' m' n' r wm:=by
 cases x with
 |no=>cases h
 |ok v e1 m1 n1 r1 w1=>exact⟨v,e1,m1,n1,r1,w1,rfl,h⟩
omit [AMem μ] in
theorem lK{X:AX}{e e':List Value}{m m':μ}{n n' r r' wm wm':Nat}(h:sn e m n r wm=.ok X e' m' n' r' wm'):X=.norm/\e'=e/\m'=m/\n'=n/\r'=r/\wm'=wm:=by
 unfold sn at h;rw[dT,dT]at h
 injection h with e1 e2 e3 e4 e5 e6;exact⟨e1.symm,e2.symm,e3.symm,e4.symm,e5.symm,e6.symm⟩
theorem dy(a b c:Nat):Nat.lor (Nat.lor a b) c=Nat.lor a (Nat.lor b c):=Nat.or_assoc a b c
theorem dZ(a:Nat):Nat.lor a 0=a:=Nat.or_zero a
theorem dx(a:Nat):Nat.lor 0 a=a:=Nat.zero_or a
theorem mY{rec:Nat->List Value->μ->Nat->OR μ}(hrec:∀f args m n v m' n' r wm,rec f args m n=.ok v m' n' r wm->Loc m n m' n' wm):
  ∀(l:List AI) (e:List Value) (m:μ) (n r0 w0:Nat) (X:AX) (e':List Value) (m':μ) (n' r wm:Nat),gD P rec l e m n r0 w0=.ok X e' m' n' r wm->
   ∃r1 w1,r=Nat.lor r0 r1/\wm=Nat.lor w0 w1/\Loc m n m' n' w1
 |[],e,m,n,r0,w0,X,e',m',n',r,wm,h=>by
  obtain⟨_,_,rfl,rfl,rfl,rfl⟩:=lK h
  exact⟨0,0,(dZ _).symm,(dZ _).symm,Loc.refl _ _⟩
 |i::l,e,m,n,r0,w0,X,e',m',n',r,wm,h=>by
  have ih:=mY hrec l
  have step:∀{o:AOp} {e2:Value->List Value},(gq (dJ P rec e m n o) fun v m n r' w'=>gD P rec l (e2 v) m n (Nat.lor r0 r') (Nat.lor w0 w'))=.ok X e' m' n' r wm->∃r1 w1,r=Nat.lor r0 r1/\wm=Nat.lor w0 w1/\Loc m n m' n' w1:=by
   intro o e2 h
   obtain⟨v,m1,n1,r1,w1,h1,h2⟩:=pR h
   have l1:=pE hrec h1
   obtain⟨r2,w2,rfl,rfl,l2⟩:=ih _ _ _ _ _ _ _ _ _ _ _ h2
   exact⟨Nat.lor r1 r2,Nat.lor w1 w2,dy _ _ _,dy _ _ _,l1.trans l2⟩
  cases i with
  |nop i=>exact ih _ _ _ _ _ _ _ _ _ _ _ h
  |op o=>exact step (e2:=fun v=>v::e) h
  |opg o gi gw=>
   replace h:cond (dQ gw (ey e gi)) (gq (dJ P rec e m n o) fun v m n r' w'=>gD P rec l (v::e) m n (Nat.lor r0 r') (Nat.lor w0 w')) (gD P rec l (undef::e) m n r0 w0)=.ok X e' m' n' r wm:=h
   cases hw:dQ gw (ey e gi)
   ·rw[hw,cond_false]at h;exact ih _ _ _ _ _ _ _ _ _ _ _ h
   ·rw[hw,cond_true]at h;exact step (e2:=fun v=>v::e) h
  |eff o=>exact step (e2:=fun _=>e) h
  |effg o gi gw=>
   replace h:cond (dQ gw (ey e gi)) (gq (dJ P rec e m n o) fun v m n r' w'=>gD P rec l e m n (Nat.lor r0 r') (Nat.lor w0 w')) (gD P rec l e m n r0 w0)=.ok X e' m' n' r wm:=h
   cases hw:dQ gw (ey e gi)
   ·rw[hw,cond_false]at h;exact ih _ _ _ _ _ _ _ _ _ _ _ h
   ·rw[hw,cond_true]at h;exact step (e2:=fun _=>e) h
omit [AMem μ] in
theorem Ck{bef k:Nat}{done:List (Nat×Nat×Nat)}{x:OR μ}{f:Value->μ->Nat->Nat->Nat->List (Nat×Nat×Nat)->CR μ}{X:AX}{e':List Value}{m':μ}{n' r wm:Nat}(h:okD bef k done x f=.ok X e' m' n' r wm):
  ∃v m1 n1 r1 w1,x=.ok v m1 n1 r1 w1/\((Nat.lor r1 w1=0/\f v m1 n1 r1 w1 done=.ok X e' m' n' r wm)\/(apart bef r1 w1 done=true/\f v m1 n1 r1 w1 ((k,r1,w1)::done)=.ok X e' m' n' r wm)):=by
 obtain⟨v,m1,n1,r1,w1,h1,h2⟩:=pR h
 rw[dT,dT]at h2
 refine⟨v,m1,n1,r1,w1,h1,?_⟩
 cases hb:Nat.beq (Nat.lor r1 w1) 0
 ·rw[hb,cond_false]at h2
  cases ha:apart bef r1 w1 done
  ·rw[ha,cond_false]at h2;cases h2
  ·rw[ha,cond_true]at h2;exact .inr ⟨rfl,h2⟩
 ·rw[hb,cond_true]at h2;exact .inl ⟨Nat.eq_of_beq_eq_true hb,h2⟩
theorem tH{rec:Nat->List Value->μ->Nat->OR μ}{e:List Value}{m m':μ}{n n' r wm:Nat}{v:Value}{x:AOp}(h:eH P rec e m n x=.ok v m' n' r wm):j8 n e x=true/\dJ P rec e m n x=.ok v m' n' r wm:=by
 unfold eH at h
 cases hb:j8 n e x
 ·rw[hb,cond_false]at h;cases h
 ·rw[hb,cond_true]at h;exact⟨rfl,h⟩
theorem Ah{rec:Nat->List Value->μ->Nat->OR μ}(hrec:∀f args m n v m' n' r wm,rec f args m n=.ok v m' n' r wm->Loc m n m' n' wm):
  ∀(l:List AI) (bs:List Nat) (k:Nat) (done:List (Nat×Nat×Nat)) (e:List Value) (m:μ) (n r0 w0:Nat) (X:AX) (e':List Value) (m':μ) (n' r wm:Nat),fH P rec l bs k done e m n r0 w0=.ok X e' m' n' r wm->
   ∃r1 w1,r=Nat.lor r0 r1/\wm=Nat.lor w0 w1/\Loc m n m' n' w1
 |[],bs,k,done,e,m,n,r0,w0,X,e',m',n',r,wm,h=>by
  obtain⟨_,_,rfl,rfl,rfl,rfl⟩:=lK h
  exact⟨0,0,(dZ _).symm,(dZ _).symm,Loc.refl _ _⟩
 |i::l,bs,k,done,e,m,n,r0,w0,X,e',m',n',r,wm,h=>by
  have ih:=Ah hrec l
  have step:∀{o:AOp} {e2:Value->List Value},(okD (bs.headD 0) k done (eH P rec e m n o) fun v m n r' w' done=>fH P rec l bs.tail (Nat.succ k) done (e2 v) m n (Nat.lor r0 r') (Nat.lor w0 w'))=.ok X e' m' n' r wm->∃r1 w1,r=Nat.lor r0 r1/\wm=Nat.lor w0 w1/\Loc m n m' n' w1:=by
   intro o e2 h
   obtain⟨v,m1,n1,r1,w1,h1,h2⟩:=Ck h
   have l1:=pE hrec (tH h1).2
   rcases h2 with⟨_,h2⟩|⟨_,h2⟩
   all_goals
    obtain⟨r2,w2,rfl,rfl,l2⟩:=ih _ _ _ _ _ _ _ _ _ _ _ _ _ _ h2
    exact⟨Nat.lor r1 r2,Nat.lor w1 w2,dy _ _ _,dy _ _ _,l1.trans l2⟩
  cases i with
  |nop i=>exact ih _ _ _ _ _ _ _ _ _ _ _ _ _ _ h
  |op o=>exact step (e2:=fun v=>v::e) h
  |opg o gi gw=>
   replace h:cond (dQ gw (ey e gi)) (okD (bs.headD 0) k done (eH P rec e m n o) fun v m n r' w' done=>fH P rec l bs.tail (Nat.succ k) done (v::e) m n (Nat.lor r0 r') (Nat.lor w0 w')) (fH P rec l bs.tail (Nat.succ k) done (undef::e) m n r0 w0)=.ok X e' m' n' r wm:=h
   cases hw:dQ gw (ey e gi)
   ·rw[hw,cond_false]at h;exact ih _ _ _ _ _ _ _ _ _ _ _ _ _ _ h
   ·rw[hw,cond_true]at h;exact step (e2:=fun v=>v::e) h
  |eff o=>exact step (e2:=fun _=>e) h
  |effg o gi gw=>
   replace h:cond (dQ gw (ey e gi)) (okD (bs.headD 0) k done (eH P rec e m n o) fun v m n r' w' done=>fH P rec l bs.tail (Nat.succ k) done e m n (Nat.lor r0 r') (Nat.lor w0 w')) (fH P rec l bs.tail (Nat.succ k) done e m n r0 w0)=.ok X e' m' n' r wm:=h
   cases hw:dQ gw (ey e gi)
   ·rw[hw,cond_false]at h;exact ih _ _ _ _ _ _ _ _ _ _ _ _ _ _ h
   ·rw[hw,cond_true]at h;exact step (e2:=fun _=>e) h
theorem uz{m0 m m':μ}{n0 n n' r r0 w0 wm:Nat}{v0 v:Value}(h0:Loc m0 n0 m n w0)(h:eX m0 n0 v0 m n r0 w0=.ok v m' n' r wm):Loc m0 n0 m' n' wm:=by
 unfold eX at h
 cases hb:(du v0&&Nat.beq (Nat.mod w0 (bit n0)) 0)
 ·rw[hb,cond_false]at h;injection h with e1 e2 e3 e4 e5;subst e2;subst e3;subst e5;exact h0
 ·rw[hb,cond_true,dT]at h;injection h with e1 e2 e3 e4 e5;subst e2;subst e3;subst e5;exact Loc.refl _ _
theorem uY{E:Nat->Option AFn}{Y:Nat->List Value->μ->Nat->OR μ}(hY:∀f args m n v m' n' r wm,Y f args m n=.ok v m' n' r wm->Loc m n m' n' wm){rec:AC->List Value->μ->Nat->CR μ}(hrec:∀c e m n X e' m' n' r wm,rec c e m n=.ok X e' m' n' r wm->Loc m n m' n' wm)
  {f:Nat} {args:List Value} {m m':μ} {n n' r wm:Nat} {v:Value} (h:dX E Y rec f args m n=.ok v m' n' r wm):Loc m n m' n' wm:=by
 unfold dX at h
 cases hE:E f with
 |none=>rw[hE]at h;exact hY _ _ _ _ _ _ _ _ _ h
 |some fn=>
  rw[hE]at h
  replace h:mB rec args m n fn=.ok v m' n' r wm:=h
  unfold mB at h
  cases hl:Nat.beq (gx args) fn.na
  ·rw[hl,cond_false]at h;cases h
  ·rw[hl,cond_true]at h
   cases hr:rec fn.code args m n with
   |no=>rw[hr]at h;cases h
   |ok X e1 m1 n1 r1 w1=>
    rw[hr]at h
    replace h:ig fn m n e1 m1 n1 r1 w1 X=.ok v m' n' r wm:=h
    have l1:=hrec _ _ _ _ _ _ _ _ _ _ hr
    unfold ig at h
    split at h
    ·unfold oN at h;split at h
     ·exact uz l1 h
     ·cases h
    ·exact uz l1 h
    ·cases h
omit [AMem μ] in
theorem qt{x:CR μ}{r0 w0:Nat}{X:AX}{e':List Value}{m':μ}{n' r wm:Nat}(h:fP r0 w0 x=.ok X e' m' n' r wm):∃r1 w1,x=.ok X e' m' n' r1 w1/\r=Nat.lor r0 r1/\wm=Nat.lor w0 w1:=by
 unfold fP at h;split at h
 ·injection h with e1 e2 e3 e4 e5 e6;subst e1;subst e2;subst e3;subst e4;subst e5;subst e6;exact⟨_,_,rfl,rfl,rfl⟩
 ·cases h
theorem fO{E:Nat->Option AFn}{Y:Nat->List Value->μ->Nat->OR μ}(hY:∀f args m n v m' n' r wm,Y f args m n=.ok v m' n' r wm->Loc m n m' n' wm):∀(k:Nat) (c:AC) (e:List Value) (m:μ) (n:Nat) (X:AX) (e':List Value) (m':μ) (n' r wm:Nat),exec P E Y k c e m n=.ok X e' m' n' r wm->Loc m n m' n' wm
 |0,c,e,m,n,X,e',m',n',r,wm,h=>by cases h
 |k+1,c,e,m,n,X,e',m',n',r,wm,h=>by
  have ih:=fO (E:=E) (Y:=Y) hY k
  replace h:Ev P E Y (exec P E Y k) c e m n=.ok X e' m' n' r wm:=h
  have norm:∀{f:List Value->μ->Nat->CR μ} {X1:AX} {e1:List Value} {m1:μ} {n1 r1 w1:Nat},Loc m n m1 n1 w1->(∀e m n X e' m' n' r wm,f e m n=.ok X e' m' n' r wm->Loc m n m' n' wm)->fI f X1 e1 m1 n1 r1 w1=.ok X e' m' n' r wm->Loc m n m' n' wm:=by
   intro f X1 e1 m1 n1 r1 w1 l1 hf h
   unfold fI at h
   split at h
   ·obtain⟨r2,w2,h2,rfl,rfl⟩:=qt h
    exact l1.trans (hf _ _ _ _ _ _ _ _ _ h2)
   ·injection h with e1 e2 e3 e4 e5 e6;subst e3;subst e4;subst e6;exact l1
  cases c with
  |skip=>injection h with e1 e2 e3 e4 e5 e6;subst e3;subst e4;subst e6;exact Loc.refl _ _
  |reg l=>
   obtain⟨r1,w1,_,rfl,l1⟩:=mY (P:=P) (fun f args m n v m' n' r wm h=>uY hY ih h) l _ _ _ _ _ _ _ _ _ _ _ h
   rw[dx];exact l1
  |regD l bs=>
   obtain⟨r1,w1,_,rfl,l1⟩:=Ah (P:=P) (fun f args m n v m' n' r wm h=>uY hY ih h) l _ _ _ _ _ _ _ _ _ _ _ _ _ _ h
   rw[dx];exact l1
  |seq a b=>
   obtain⟨X1,e1,m1,n1,r1,w1,h1,h2⟩:=fj h
   exact norm (ih _ _ _ _ _ _ _ _ _ _ h1) (fun _ _ _ _ _ _ _ _ _ h=>ih _ _ _ _ _ _ _ _ _ _ h) h2
  |cond x a b=>
   replace h:ic (exec P E Y k a e m n) (exec P E Y k b e m n) (ev e x)=.ok X e' m' n' r wm:=h
   unfold ic at h
   split at h
   ·rename_i t _
    cases t
    ·exact ih _ _ _ _ _ _ _ _ _ _ h
    ·exact ih _ _ _ _ _ _ _ _ _ _ h
   ·cases h
  |block id sh b=>
   obtain⟨X1,e1,m1,n1,r1,w1,h1,h2⟩:=fj h
   have l1:=ih _ _ _ _ _ _ _ _ _ _ h1
   unfold kx at h2
   split at h2
   ·rename_i i
    cases hi:Nat.beq i id
    ·rw[hi,cond_false]at h2;injection h2 with e1 e2 e3 e4 e5 e6;subst e3;subst e4;subst e6;exact l1
    ·rw[hi,cond_true]at h2;injection h2 with e1 e2 e3 e4 e5 e6;subst e3;subst e4;subst e6;exact l1
   ·injection h2 with e1 e2 e3 e4 e5 e6;subst e3;subst e4;subst e6;exact l1
  |loop sh b=>
   obtain⟨X1,e1,m1,n1,r1,w1,h1,h2⟩:=fj h
   exact norm (ih _ _ _ _ _ _ _ _ _ _ h1) (fun _ _ _ _ _ _ _ _ _ h=>ih _ _ _ _ _ _ _ _ _ _ h) h2
  |pre sel d c=>exact ih _ _ _ _ _ _ _ _ _ _ h
  |post c sel d=>
   obtain⟨X1,e1,m1,n1,r1,w1,h1,h2⟩:=fj h
   have l1:=ih _ _ _ _ _ _ _ _ _ _ h1
   unfold mZ at h2
   split at h2
   ·injection h2 with e1 e2 e3 e4 e5 e6;subst e3;subst e4;subst e6;exact l1
   ·injection h2 with e1 e2 e3 e4 e5 e6;subst e3;subst e4;subst e6;exact l1
  |exit id=>injection h with e1 e2 e3 e4 e5 e6;subst e3;subst e4;subst e6;exact Loc.refl _ _
  |ret rs=>
   replace h:ov e m n (lq e m n rs)=.ok X e' m' n' r wm:=h
   unfold ov at h
   split at h
   ·injection h with e1 e2 e3 e4 e5 e6;subst e3;subst e4;subst e6;exact Loc.refl _ _
   ·cases h
end
def oJ(d:Nat)(Γ:Ctx):Ctx:=Γ.map fun l=>l.filter fun t=>!Nat.beq t d
def yZ(d:Nat):Ctx->Nat->Ctx
 |[],_=>[]
 |l::Γ,0=>(d::l)::Γ
 |l::Γ,i+1=>l::yZ d Γ i
def fixC(sel:List Nat)(d:Nat)(Γ:Ctx):Ctx:=sel.map (fun i=>(Γ[i]?).getD [])++Γ.drop d
def leC:Ctx->Ctx->Bool
 |[],_=>true
 |l::ls,r::rs=>l.all (fun t=>r.any (Nat.beq t))&&leC ls rs
 |_::_,[]=>false
def Aq:Ctx->Ctx->Ctx
 |l::ls,r::rs=>l.filter (fun t=>r.any (Nat.beq t))::Aq ls rs
 |_,_=>[]
def meetO:Option Ctx->Option Ctx->Option Ctx
 |some a,some b=>some (Aq a b)
 |some a,none=>some a
 |none,b=>b
def wS:List (Nat×Ctx)->Nat->Option Ctx
 |[],_=>none
 |(i,Γ)::l,id=>cond (Nat.beq i id) (some Γ) (wS l id)
theorem any_beq{l:List Nat}{t:Nat}:l.any (Nat.beq t)=true↔t∈l:=by
 rw[List.any_eq_true]
 exact⟨fun⟨x,hx,h⟩=>by rw[Nat.eq_of_beq_eq_true h];exact hx,fun h=>⟨t,h,by simp⟩⟩
theorem eu{Γ:Ctx}{i t:Nat}:named Γ i t=true↔∃l,Γ[i]?=some l/\t∈l:=by
 unfold named
 split
 ·rename_i l hl;rw[any_beq,hl];exact⟨fun h=>⟨l,rfl,h⟩,fun⟨l',h1,h2⟩=>by injection h1 with h1;subst h1;exact h2⟩
 ·rename_i hl;rw[hl];simp
theorem jG{d:Nat}{Γ:Ctx}{i t:Nat}(h:named (oJ d Γ) i t=true):named Γ i t=true/\t≠d:=by
 obtain⟨l,h1,h2⟩:=eu.1 h
 simp only[oJ,List.getElem?_map,Option.map_eq_some_iff]at h1
 obtain⟨l',h1,rfl⟩:=h1
 rw[List.mem_filter]at h2
 exact⟨eu.2 ⟨l',h1,h2.1⟩,by intro e;subst e;simp at h2⟩
theorem nU{d:Nat}:∀{Γ:Ctx} {i j t:Nat},named (yZ d Γ i) j t=true->named Γ j t=true\/(j=i/\t=d)
 |[],_,_,_,h=>by simp[yZ,named]at h
 |l::Γ,0,j,t,h=>by
  obtain⟨l',h1,h2⟩:=eu.1 h
  cases j with
  |zero=>
   have h1:some (d::l)=some l':=h1
   injection h1 with h1;subst h1
   rcases List.mem_cons.1 h2 with rfl|h2
   ·exact .inr ⟨rfl,rfl⟩
   ·exact .inl (eu.2 ⟨l,rfl,h2⟩)
  |succ j=>exact .inl (eu.2 ⟨l',h1,h2⟩)
 |l::Γ,i+1,j,t,h=>by
  cases j with
  |zero=>exact .inl h
  |succ j=>
   rcases nU (Γ:=Γ) (i:=i) (j:=j) (t:=t) h with h|⟨rfl,rfl⟩
   ·exact .inl h
   ·exact .inr ⟨rfl,rfl⟩
theorem Ao:∀{Γ Γ':Ctx} {i t:Nat},leC Γ Γ'=true->named Γ i t=true->named Γ' i t=true
 |[],_,_,_,_,h=>by simp[named]at h
 |l::ls,[],_,_,h,_=>by cases h
 |l::ls,r::rs,i,t,h,hn=>by
  simp only[leC,Bool.and_eq_true,List.all_eq_true]at h
  cases i with
  |zero=>
   have hn:l.any (Nat.beq t)=true:=hn
   exact h.1 t (any_beq.1 hn)
  |succ i=>exact Ao (i:=i) h.2 hn
theorem oL:∀{Γ Γ':Ctx} {i t:Nat},named (Aq Γ Γ') i t=true->named Γ i t=true/\named Γ' i t=true
 |[],_,_,_,h=>by simp[Aq,named]at h
 |_::_,[],_,_,h=>by simp[Aq,named]at h
 |l::ls,r::rs,i,t,h=>by
  cases i with
  |zero=>
   obtain⟨l',h1,h2⟩:=eu.1 h
   have h1:some (l.filter fun t=>r.any (Nat.beq t))=some l':=h1
   injection h1 with h1;subst h1
   rw[List.mem_filter]at h2
   exact⟨eu.2 ⟨l,rfl,h2.1⟩,eu.2 ⟨r,rfl,any_beq.1 h2.2⟩⟩
  |succ i=>exact oL (i:=i) h
section
variable{ρ:Ren}{Γ:Ctx}{e:List Value}{tmps:Array Value}
theorem dI.push(h:dI ρ Γ e tmps){d:Nat}{v v':Value}(hv:VRel ρ v v')(hd:d<tmps.size):dI ρ ([d]::oJ d Γ) (v::e) (tmps.setIfInBounds d v'):=by
 intro i t hn
 cases i with
 |zero=>
  have:t=d:=by
   obtain⟨l,h1,h2⟩:=eu.1 hn
   have h1:some [d]=some l:=h1
   injection h1 with h1;subst h1;simpa using h2
  subst this
  exact⟨v,v',rfl,by simp[hd],hv⟩
 |succ i=>
  obtain⟨h1,h2⟩:=jG (i:=i) hn
  obtain⟨x,y,a,b,c⟩:=h i t h1
  exact⟨x,y,by simpa using a,by rw[Array.getElem?_setIfInBounds,if_neg (fun e=>h2 e.symm)];exact b,c⟩
theorem dI.alias(h:dI ρ Γ e tmps){i t d:Nat}(hn:named Γ i t=true)(hd:d<tmps.size):dI ρ (yZ d (oJ d Γ) i) e (tmps.setIfInBounds d (tmps.getD t undef)):=by
 intro j s hs
 rcases nU hs with hs|⟨rfl,rfl⟩
 ·obtain⟨h1,h2⟩:=jG hs
  obtain⟨x,y,a,b,c⟩:=h j s h1
  exact⟨x,y,a,by rw[Array.getElem?_setIfInBounds,if_neg (fun e=>h2 e.symm)];exact b,c⟩
 ·obtain⟨x,y,a,b,c⟩:=h j t hn
  exact⟨x,y,a,by rw[Array.getElem?_setIfInBounds_self_of_lt hd,Array.getD_eq_getD_getElem?,b];rfl,c⟩
theorem dI.le{Γ':Ctx}(h:dI ρ Γ e tmps)(hl:leC Γ' Γ=true):dI ρ Γ' e tmps:=fun i t hn=>h i t (Ao hl hn)
theorem dI.fix(h:dI ρ Γ e tmps)(sel:List Nat)(d:Nat):dI ρ (fixC sel d Γ) (AV sel d e) tmps:=by
 intro i t hn
 obtain⟨l,h1,h2⟩:=eu.1 hn
 unfold AV
 rw[K7,jd]
 unfold fixC at h1
 rw[List.getElem?_append]at h1
 split at h1
 ·rename_i hi
  have hi:i<sel.length:=by simpa using hi
  simp only[List.getElem?_map,List.getElem?_eq_getElem hi,Option.map_some]at h1
  injection h1 with h1
  cases hg:Γ[sel[i]]? with
  |none=>rw[hg]at h1;simp at h1;subst h1;simp at h2
  |some l'=>
   rw[hg]at h1;simp at h1;subst h1
   obtain⟨x,y,a,b,c⟩:=h sel[i] t (eu.2 ⟨l',hg,h2⟩)
   refine⟨x,y,?_,b,c⟩
   rw[List.getElem?_append_left (by simpa using hi)]
   simp only[List.getElem?_map,List.getElem?_eq_getElem hi,Option.map_some,pY,a];rfl
 ·rename_i hi
  have hi:sel.length<=i:=by simpa using hi
  simp only[List.length_map,List.getElem?_drop]at h1
  obtain⟨x,y,a,b,c⟩:=h _ t (eu.2 ⟨l,h1,h2⟩)
  exact⟨x,y,by rw[List.getElem?_append_right (by simpa using hi)];simpa using a,b,c⟩
end
section
variable(P:Program)(nt:Nat)(res:Array ResultVar)
def qn(ops:Array Oper)(Γ:Ctx)(o:Oper):AI->Option Ctx
 | .nop i=>match o.guard,o.dst,o.op with
  |none,some d,.move (.tmp t)=>cond (named Γ i t&&Nat.blt d nt) (some (yZ d (oJ d Γ) i)) none
  |none,some d,.assign (.tmp t)=>cond (named Γ i t&&Nat.blt d nt) (some (yZ d (oJ d Γ) i)) none
  |_,_,_=>none
 | .op x=>match o.guard,o.dst with
  |none,some d=>cond (fq P Γ o.op x&&Nat.blt d nt) (some ([d]::oJ d Γ)) none
  |_,_=>none
 | .opg x gi gw=>match o.guard,o.dst with
  |some (j,w),some d=>match(ops[j]?).bind (·.dst)with
   |some g=>cond (fq P Γ o.op x&&Nat.blt d nt&&w==gw&&named Γ gi g) (some ([d]::oJ d Γ)) none
   |none=>none
  |_,_=>none
 | .eff x=>match o.guard,o.dst with
  |none,none=>cond (fq P Γ o.op x) (some Γ) none
  |_,_=>none
 | .effg x gi gw=>match o.guard,o.dst with
  |some (j,w),none=>match(ops[j]?).bind (·.dst)with
   |some g=>cond (fq P Γ o.op x&&w==gw&&named Γ gi g) (some Γ) none
   |none=>none
  |_,_=>none
def j4(ops:Array Oper):List Oper->Ctx->List AI->Option Ctx
 |[],Γ,[]=>some Γ
 |o::os,Γ,i::is=>match qn P nt ops Γ o i with
  |some Γ=>j4 ops os Γ is
  |none=>none
 |_,_,_=>none
def iM(Γ:Ctx):List ResultVar->List ROp->Bool
 |[],[]=>true
 | .tmp t::asl,.v i::bs=>named Γ i t&&iM Γ asl bs
 | .cell a t::asl,.cell i::bs=>named Γ i a&&(iD P t==some false)&&iM Γ asl bs
 | .cell a t::asl,.cells i n::bs=>named Γ i a&&(iD P t==some true)&&k8 P t n&&iM Γ asl bs
 |_,_=>false
def sL(acc:List Nat):List Edge->Nat
 |[]=>0
 |e::es=>cond (Region.binds .any e) (Nat.lor (Nat.lor (bit e.on) (acc.getD e.on 0)) (sL acc es)) (sL acc es)
def BC(acc:List Nat):List Oper->List Nat
 |[]=>acc
 |o::os=>jV (sL acc o.after.toList) fun b=>BC (acc++[b]) os
def looks(ops:Array Oper)(o:Oper):List Nat:=
 (o.op.operands.toList.filterMap fun | .tmp t=>some t|_=>none)++(match o.guard with|some (g,_)=>((ops[g]?).bind (·.dst)).toList|none=>[])
def li(ops:Array Oper)(x y:Oper):Bool:=
 (match x.dst with|some d=>!((looks ops y).any (Nat.beq d))&&(match y.dst with|some d'=>!(Nat.beq d' d)|none=>true)|none=>true) &&
 (match y.dst with|some d=>!((looks ops x).any (Nat.beq d))|none=>true)
def sZ(ops:Array Oper)(y:Oper)(b:Nat):List Oper->Nat->Bool
 |[],_=>true
 |x::xs,i=>(Nat.testBit b i || li ops x y)&&sZ ops y b xs (i+1)
def mU(ops:Array Oper)(done:List Oper):List Oper->List Nat->Nat->Bool
 |[],[],_=>true
 |y::ys,b::bs,k=>(y.after.toList.all fun e=>!(Region.binds .any e) || Nat.blt e.on k)&&(match y.op with | .select _ _=>false|_=>true)&&sZ ops y b done 0&&mU ops (done++[y]) ys bs (k+1)
 |_,_,_=>false
def yK:List Nat->List Nat->Bool
 |[],[]=>true
 |a::asl,b::bs=>Nat.beq a b&&yK asl bs
 |_,_=>false
def pQ(ops:Array Oper)(bs:List Nat):Bool:=yK (BC [] ops.toList) bs&&mU ops [] ops.toList bs 0
def Nc(sel:List Nat)(d:Nat):Option (Option Ctx)->Option (Option Ctx)
 |some (some Γ)=>some (some (fixC sel d Γ))
 |r=>r
def chk:List (Nat×Ctx)->Ctx->Code->AC->Option (Option Ctx)
 |ctx,Γ,c,.pre sel d x=>chk ctx (fixC sel d Γ) c x
 |ctx,Γ,c,.post x sel d=>Nc sel d (chk ctx Γ c x)
 |_,Γ,.skip,.skip=>some (some Γ)
 |_,Γ,.label _,.skip=>some (some Γ)
 |ctx,Γ,.scope c,.seq .skip x=>chk ctx Γ c x
 |_,Γ,.region _ ops false,.reg l=>(j4 P nt ops ops.toList Γ l).map some
 |_,Γ,.region _ ops true,.regD l bs=>cond (pQ ops bs) ((j4 P nt ops ops.toList Γ l).map some) none
 |ctx,Γ,.seq a b,.seq x y=>match chk ctx Γ a x with
  |some (some Γ)=>chk ctx Γ b y
  |_=>none
 |ctx,Γ,.cond c a b,.cond c' x y=>cond (dL Γ c c') (match chk ctx Γ a x,chk ctx Γ b y with
  |some r,some s=>some (meetO r s)
  |_,_=>none) none
 |ctx,Γ,.block id b,.block id' Γt x=>cond (Nat.beq id id') (match chk ((id,Γt)::ctx) Γ b x with
  |some none=>some (some Γt)
  |some (some Γb)=>cond (leC Γt Γb) (some (some Γt)) none
  |none=>none) none
 |ctx,Γ,.loop b,.loop Γh x=>cond (leC Γh Γ) (match chk ctx Γh b x with
  |some none=>some none
  |some (some Γb)=>cond (leC Γh Γb) (some none) none
  |none=>none) none
 |ctx,Γ,.exit id,.exit id'=>cond (Nat.beq id id') (match wS ctx id with
  |some Γt=>cond (leC Γt Γ) (some none) none
  |none=>none) none
 |_,Γ,.ret,.ret rs=>cond (iM P Γ res.toList rs) (some none) none
 |_,_,_,_=>none
def yU(n:Nat):Ctx:=(List.range n).map fun i=>[i]
def xy(fn:Func)(f:AFn):Bool:=match fn.body with
 |some c=>fn.name != "runtime.NumGoroutine"&&decide (f.na<=fn.ntmps)&&(match chk P fn.ntmps fn.results [] (yU f.na) c f.code with
  |some none=>true
  |some (some Γ)=>iM P Γ fn.results.toList f.endrs
  |none=>false)
 |none=>false
end
end Go.Am
