import Derived.Test.YtjkeeocnekggfaaGreatPYA
set_option linter.defProp false
set_option linter.unusedVariables false
set_option linter.unusedSimpArgs false
set_option maxRecDepth 4000
set_option maxHeartbeats 4000000
open Array renaming mem_toList_iff->abt,getElem?_eq_some_iff->acF,replicate->acH,getD->adF,getElem?_eq_getElem->aeC,mem_of_getElem?->ae3
open BitVec renaming ofInt->acA
open Bool renaming and_eq_true->ada,or_eq_true->adE,and_true->aeE,not_false->afv
open Go.Call renaming operands->acL
open Go.Instr renaming sliceBounds->aeb,mapUpdate->aew,sliceBound->afl,sliceAt->afw,loadAt->afy,index->afB,slice->afC
open Go.IntKind renaming i64->adG,wrap->afP,bits->afQ,signed->afR
open Go.MapKept renaming run_getObj_map->aei,run_setObj_map->aes
open Go.Next renaming value->acU
open Go.Op renaming operands->aca,shift->afg,bytesLess->afI,stringOp->afK,intDiv->afN
open Go.Operand renaming tmp->adQ
open Go.Region renaming binds->ab5,ready->afu
open Go.Result renaming andThen_ok->ad9,andThen->afp
open Go.Value renaming int->aef
open Int renaming toNat_natCast->aeh,sub_zero->afG
open List renaming map_cons->abh,all_eq_true->abi,getElem?_map->abj,length_map->abk,getElem?_eq_some_iff->abq,getElem?_append_left->abr,getElem?_eq_none->abw,map_congr_left->aby,getElem_map->abA,flatMap_cons->abP,replicate->abV,mem_cons_of_mem->ab2,mem_cons->acB,range->acD,mem_singleton->acG,map_append->acI,map_set->acJ,getElem_mem->acN,take_of_length_le->acO,length_append->acP,append_nil->acQ,ext_getElem?->acR,mem_range->acS,pairwise_append->acT,getElem?_append_right->acV,length_drop->acX,length_cons->acY,getElem?_range->acZ,length->ac0,mem_map->ac2,getElem?_set->ac7,map_take->adw,map_drop->adx,mem_append_left->ady,getElem?_set_ne->adA,take_append_of_le_length->adB,getElem?_modify->adC,append_assoc->adH,length_take->adI,map_toArray->adJ,getElem?_set_self->adL,length_set->adT,mem_append->adV,nil_append->adX,set_append_left->ad5,pairwise_cons->aea,getElem_drop->aec,map_nil->aed,drop_append_of_le_length->aet,drop_zero->aeD,all_cons->aeZ,getElem?_cons_succ->ae2,map_map->ae4,drop_of_length_le->ae6,mem_of_getElem?->ae9,drop_succ_cons->afa,mem_map_of_mem->afb,getElem?_take->afd,mem_filterMap->afe,append_of_mem->aff,set_cons_zero->afh,mem_cons_self->afi,getElem_take->afj,nodup_append->afk,nodup_range->afm,cons_append->afn,foldlM_cons->afo,foldlM_nil->afq,take_take->afs,drop_drop->afx
open Nat renaming eq_of_beq_eq_true->abg,beq->abO,lt_or_ge->acC,le_refl->acE,succ_mul->acK,add_sub_cancel_left->ac1,zero_mul->ad1,le_of_ble_eq_true->ad2,zero_add->aeg,mul_comm->ae7,le_of_not_lt->afr,min_eq_left->aft,testBit_or->afA,add_assoc->afD,le_trans->afE,ble->afF,zero_le->afJ,blt_eq->afL,mod_lt->afM,blt->afO
open Option renaming map_eq_some_iff->abz,bind_some->acM,some->ac8,map_some->adK,isSome_some->ad8,none->afz
open Prod renaming fst->acz
namespace Go.Proofs.YtjkeeocnekggfaaGreat
def aaO:=@if_neg
def aaP:=@if_pos
namespace Av
variable {α:Type} {F:α->List au} {Inv:α->Prop} {cs:List au} {f:FuncId} {fn:Func} {fp:List Nat} {fs:List au} {id:Nat} {j:Nat} {listed:Array Bool} {off:Nat} {op:BinOp} {q:Bool} {sz:Nat} {v:Value} {xs:List Operand} {y:Operand} {μ:α->Nat}
def Zp (n:Nat) (x:al):al:=if x.ok n then x else .c .any
def gc (n:Nat) (s:St):St:=⟨fun i=>Zp n (s.sl i),s.H.take n⟩
def adz (n:Nat) (s:St):Bool:=(s.H.take n).all (okB n)
def VU {n0 n:Nat} {s:St} (h0:n0<=n) (h1:n<=s.H.length) (h:adz n s=true):dG n0 s (gc n s):=by
 have hlen:(s.H.take n).length=n:=by rw[adI];omega
 refine .i (by show n0<=(s.H.take n).length;omega) fun a w κ ρ hR=>⟨hR.defers,fun i hi'=> ?_,fun i hi=> ?_,fun i=> ?_,⟨fun b cs hb=> ?_,fun b cs hb x hx=> ?_⟩⟩
 ·simp only[gc]
  unfold Zp;split
  ·exact hR.slot i hi'
  ·trivial
 ·simp only[gc,Zp]
  rw[hR.out i hi];rfl
 ·simp only[gc]
  rw[hlen];unfold Zp;split
  ·rename_i hy;exact hy
  ·rfl
 ·simp only[gc]at hb
  rw[afd]at hb
  split at hb
  ·exact hR.heap.eu b cs hb
  ·cases hb
 ·simp only[gc]at hb⊢
  rw[hlen];have:=abi.1 h (some cs) (ae9 hb);exact abi.1 this x hx
def K9 {n0:Nat} {s s2:St} (h0:n0<=s.H.length) (hH:s2.H=s.H) (h: ∀ i,s2.sl i=s.sl i\/s2.sl i= .c .any):dG n0 s s2:=by
 refine .i (by rw[hH];exact h0) fun a w κ ρ hR=>⟨hR.defers,fun i hi'=> ?_,fun i hi=> ?_,fun i=> ?_,by rw[hH];exact hR.heap⟩
 ·rcases h i with e|e
  ·rw[e];exact hR.slot i hi'
  ·rw[e];trivial
 ·rcases h i with e|e
  ·rw[e];exact hR.out i hi
  ·exact e
 ·rw[hH]
  rcases h i with e|e
  ·rw[e];exact hR.ok i
  ·rw[e];rfl
def al.t:al->Option bJ
 | .c x=>some (.c x)
 | .agg cs=>some (.agg cs)
 | .dt _=>none
def al.WO {w:World} {κ:Nat->BK} {ρ:Nat->Nat} {l:Loc} {x:al} {y:bJ} (h:cm w κ ρ l x.aZ v) (e:x.aZ.t=some y):fJ w κ ρ l y v:=by
 cases x with
 |c x=>cases e;exact⟨ab.iZ x,h⟩
 |agg cs=>cases e;exact h
 |dt ts=>cases e
def Ga {P:Program} {s:St} {t:TypeId} {x:Operand} {r:al} {ch:gA} (h:fY P false s t x=some (r,ch)) {a:Act} {w:World} {κ:Nat->BK} {ρ:Nat->Nat} (hR:Rel s a w κ ρ):
  ∃ p v,a.eval x= .pointer (some p)/\(loadVar t p).run P w= .ok v w/\(∀ l,cm w κ ρ l r v)/\r.ok s.H.length=true/\r.aZ=r:=by
 have key: ∀ {p v},(afy t (.pointer (some p))).run P w= .ok v w->(loadVar t p).run P w= .ok v w:=fun{p v} hh=>by
  simpa[afy,Instr.sureAddr]using hh
 unfold fY at h;split at h
 next n cs off ht he=>
  split at h
  next y hy=>
   injection h with h;injection h with h1 h2;subst h1;subst h2;have⟨g,oo,hv,hrow⟩:=hR.y8 he;have⟨hi,Je⟩:=abq.1 hy;have⟨v,hc,hr⟩:=hrow.cell off hi;rw[Je]at hr
   exact⟨_,v,hv,key (gl w g (oo+off) t ht hc),fun l=>hr,rfl,rfl⟩
  ·cases h
 next n cs off ht he=>
  split at h
  next hn=>
   injection h with h;injection h with h1 h2;subst h1;subst h2;have⟨g,oo,hv,hrow⟩:=hR.y8 he;have⟨vs,hl,BF,xj⟩:=hrow.part off n hn;refine⟨_,.agg vs.toArray,hv,key (jS w g (oo+off) t ht hl BF),fun l=>⟨vs.toArray,rfl,by simp;omega,fun i hi hi'=> ?_⟩,CW _ _ _ _,rfl⟩;have hi2:i<n:=by simp at hi;omega
   refine⟨by rw[abA];rfl,?_⟩;have:=xj i hi2 (by omega);simp only[abA,afj,aec];exact this
  ·cases h
 next n b off ht he=>
  split at h
  next cells hb=>
   split at h
   next y hy=>
    have⟨hi,Je⟩:=abq.1 hy;split at h
    ·rename_i heq;cases heq
    ·cases h
    next X7 X8=>
     injection h with h;injection h with h1 h2;subst h1;subst h2;have⟨v,hc,hr⟩:=(hR.heap.eu b cells hb).cell ((hR.heap.eu b cells hb).qS hy (fun q es e=>by first|exact X7 q es e|exact X8 q es e)) off hi;rw[Je]at hr
     exact⟨_,v,hR.mE he,key (gl w _ off t ht hc),fun l=>bZ.aZ hr,ab.iu _ (Je▸L6 hR.heap hb off hi),by show al.c (ab.aZ _)=_;rw[ab.dC (ab.iZ _)]⟩
   ·cases h
  ·cases h
 next n b off ht he=>
  split at h
  next cells hb=>
   split at h
   next hn=>
    injection h with h;injection h with h1 h2;subst h1;subst h2;have⟨hn,O4⟩:=hn;have⟨vs,hl,BF,xj⟩:=(hR.heap.eu b cells hb).part off n (.inr ((hR.heap.eu b cells hb).QV O4)) hn;refine⟨_,.agg vs.toArray,hR.mE he,key (jS w _ off t ht hl BF),fun l=>⟨vs.toArray,rfl,by simp;omega,fun i hi hi'=> ?_⟩,?_,rfl⟩
    ·have hi2:i<n:=by simp at hi;omega
     refine⟨by rw[abA];exact ab.iZ _,?_⟩;have:=xj i hi2 (by omega);simp only[abA,afj,aec];exact bZ.aZ this
    ·simp only[al.ok,abi]
     intro y hy;obtain⟨z,hz,rfl⟩:=ac2.1 hy;exact ab.iu _ (hR.heap.ok b cells hb z (List.mem_of_mem_drop (List.mem_of_mem_take hz)))
   ·cases h
  ·cases h
 ·cases h
def KH (P:Program) (s:St):ResultVar->Option bJ
 | .tmp t=>((s.ev (.tmp t)).aZ.t).map bJ.nz
 | .cell x t=>match fY P false s t (.tmp x)with
  |some (y,_)=>y.t.map bJ.nz
  |none=>none
def vl (P:Program) (s:St):List ResultVar->Option (List bJ)
 |[]=>some []
 |x::r=>match KH P s x,vl P s r with
  |some y,some ys=>some (y::ys)
  |_,_=>none
def H7:List bJ->al
 |[x]=>x.a
 |l=> .dt l
def ab9 {n:Nat} {x:al} {y:bJ} (h:x.ok n=true) (e:x.t=some y):y.ok n=true:=by
 cases x with
 |c x=>cases e;exact h
 |agg cs=>cases e;exact h
 |dt ts=>cases e
def Vo (tmps:Array Value):ResultVar->Sem Value
 | .tmp t=>pure (tmps.getD t undef)
 | .cell a t=>do loadVar t (← asAddr (tmps.getD a undef))
def KI (fn:Func) (tmps:Array Value):results fn tmps=(fn.results.mapM (Vo tmps)>>= fun vs=>pure (if h:vs.size=1 then vs[0]else .tuple vs)):=by
 unfold results;congr 1
def RR {P:Program} {s:St} {a:Act} {w:World} {κ:Nat->BK} {ρ:Nat->Nat} (hR:Rel s a w κ ρ) (x:ResultVar) {y:bJ} (h:KH P s x=some y):
  ∃ v,(Vo a.tmps x).run P w= .ok v w/\(∀ l,fJ w κ ρ l y v)/\y.ok s.H.length=true:=by
 cases x with
 |tmp t=>
  simp[KH,abz]at h;obtain⟨y0,h,rfl⟩:=h;exact⟨a.tmps.getD t undef,rfl,fun l=>(al.WO (hR.ev (l:=l) (.tmp t)) h).nz,by rw[bJ.HZ];exact ab9 (al.iu _ (hR.mI (.tmp t))) h⟩
 |cell x t=>
  simp[KH]at h;split at h
  next z ch hz=>
   have⟨p,v,h1,h2,h3,h4,h5⟩:=Ga hz hR;have h1':a.tmps.getD x undef= .pointer (some p):=h1;simp[abz]at h;obtain⟨y0,h,rfl⟩:=h;refine⟨v,by simp[Vo,h1',asAddr,h2],fun l=> ?_,by rw[bJ.HZ];exact ab9 h4 h⟩;have:=h3 l;rw[← h5]at this h
   exact(al.WO this h).nz
  ·cases h
def Is {P:Program} {s:St} {a:Act} {w:World} {κ:Nat->BK} {ρ:Nat->Nat} (hR:Rel s a w κ ρ): ∀ (l:List ResultVar) (ys:List bJ),vl P s l=some ys->
  ∃ vs:List Value,(l.mapM (Vo a.tmps)).run P w= .ok vs w/\vs.length=ys.length/\(∀ i (h:i<ys.length) (h':i<vs.length) l,fJ w κ ρ l ys[i] vs[i])/\ ∀ y∈ys,y.ok s.H.length=true
 |[],ys,h=>by cases h;exact⟨[],by simp,rfl,fun i h=>by simp at h,fun y hy=>by cases hy⟩
 |x::r,ys,h=>by
  unfold vl at h;split at h
  next y zs h1 h2=>
   cases h;have⟨v,k1,k2,k3⟩:=RR hR x h1;have⟨vs,j1,j2,j3,j4⟩:=Is hR r zs h2;refine⟨v::vs,?_,by simp[j2],fun i hi hi' l=> ?_,fun z hz=> ?_⟩
   ·rw[List.mapM_cons]
    simp[Sem.run_bind,Sem.run_pure];rw[k1];simp[ad9];rw[j1];rfl
   ·cases i with
    |zero=>exact k2 l
    |succ i=>exact j3 i (by simpa using hi) (by simpa using hi') l
   ·rcases acB.1 hz with rfl|hz
    ·exact k3
    ·exact j4 z hz
  ·cases h
def nG {P:Program} {s:St} {a:Act} {w:World} {κ:Nat->BK} {ρ:Nat->Nat} (hR:Rel s a w κ ρ) {ys:List bJ} (h:vl P s fn.results.toList=some ys):
  ∃ v vs,(results fn a.tmps).run P w= .ok v w/\v=(if h:vs.size=1 then vs[0]else .tuple vs)/\vs.size=ys.length/\(∀ i (h:i<ys.length) (h':i<vs.size) l,fJ w κ ρ l ys[i] vs[i])/\ ∀ y∈ys,y.ok s.H.length=true:=by
 have⟨vs,h1,h2,h3,h4⟩:=Is hR _ _ h;refine⟨_,vs.toArray,?_,rfl,by simpa using h2,fun i hi hi' l=>by simpa using h3 i hi (by simpa using hi') l,h4⟩;rw[KI,Array.mapM_eq_mapM_toList];simp[Sem.run_bind,Sem.run_map,h1,ad9,Sem.run_pure]
def va {w:World} {κ:Nat->BK} {ρ:Nat->Nat} {ys:List bJ} {vs:Array Value} (h1:vs.size=ys.length) (h2: ∀ i (h:i<ys.length) (h':i<vs.size) l,fJ w κ ρ l ys[i] vs[i]) (l:Loc):cm w κ ρ l (H7 ys) (if h:vs.size=1 then vs[0]else .tuple vs):=by
 unfold H7;split
 next y=>
  have hs:vs.size=1:=by simpa using h1
  rw[dif_pos hs];exact(h2 0 (by simp) (by omega) l).a
 next hne=>
  have hs: ¬ vs.size=1:=fun hs=>by
   rw[h1]at hs
   match ys,hs with
   |[y],_=>exact hne y rfl
  rw[dif_neg hs];exact⟨vs,rfl,h1,fun i hi hi'=>h2 i hi hi' l⟩
def entry (fn:Func) (args:List al) (H:List (Option (List ab))):St:=⟨fun i=>args.getD i (if i<fn.ntmps then .c .tV else .c .any),H⟩
def ae8:bJ->Bool
 | .c x=>x.flat
 | .agg _=>true
def Flat:al->Bool
 | .c x=>x.flat
 |_=>true
def dC {x:al} (h:Flat x=true):x.aZ=x:=by
 cases x with
 |c x=>show al.c (ab.aZ _)=_;rw[ab.dC h]
 |agg cs=>rfl
 |dt ts=>rfl
def Tg (P:Program) (fn:Func) (r:al) (H':List (Option (List ab))) (e:bN) (s:St):Prop:=
 (match e with| .exit _=>False|_=>True)/\ ∃ ys,vl P s fn.results.toList=some ys/\H7 ys=r/\s.H.take H'.length=H'
def rM {args:List al} {H:List (Option (List ab))} {w:World} {κ:Nat->BK} {ρ:Nat->Nat} {vals:Array Value} (hn:args.length<=fn.ntmps) (hs:vals.size=args.length) (hr: ∀ i (h:i<args.length) (h':i<vals.size) l,cm w κ ρ l args[i] vals[i]) (hok: ∀ x∈args,x.ok H.length=true) (hH:yQ H w κ ρ):
  Rel (entry fn args H) { tmps:=vals++acH (fn.ntmps-vals.size) undef,defers:=[] } w κ ρ:=by
 have hsz:(vals++acH (fn.ntmps-vals.size) undef).size=fn.ntmps:=by simp;omega
 refine⟨rfl,fun i hi'=> ?_,fun i hi=> ?_,fun i=> ?_,hH⟩
 ·have hi2:i<fn.ntmps:=by rw[← hsz];exact hi'
  simp only[entry];rcases acC i args.length with hlt|hge
  ·rw[GD,GE hlt,Array.getElem_append_left (by omega)]
   exact hr i hlt (by omega) _
  ·rw[GD,abw hge,Array.getElem_append_right (by omega),aaP hi2]
   simp only[Array.getElem_replicate];rfl
 ·have hi2:fn.ntmps<=i:=by rw[← hsz];exact hi
  simp only[entry];rw[GD,abw (by omega),aaO (by omega)];rfl
 ·simp only[entry]
  rcases acC i args.length with hlt|hge
  ·rw[GD,GE hlt]
   exact hok _ (acN hlt)
  ·rw[GD,abw hge]
   simp only[Option.getD_none];split<;>rfl
def pb {args:List al} {vals:Array Value} (hn:args.length<=fn.ntmps) (hs:vals.size=args.length):(vals++acH (fn.ntmps-vals.size) undef).size=fn.ntmps:=by simp;omega
def U8 {P:Program} {D:Array Oper->St->(St->Prop)->Prop} (hD:qj P D) {c:Code} {args:List al} {H H':List (Option (List ab))} {r:al} (hf:P.funcs[f]? =some fn) (hb:fn.body=some c) (hn:(fn.name== "runtime.NumGoroutine")=false) (hca:args.length<=fn.ntmps) (hcode:codeOk fn.ntmps c=true)
  (hflat:Flat r=true) (hrok:r.ok H'.length=true) (hlen:H.length<=H'.length) (hHok:H'.all (okB H'.length)=true) {s0:St} (hs0:dG H.length (entry fn args H) s0) (h:W P D H.length c s0 (Tg P fn r H')):Ok P f args H r H':=by
 refine⟨⟨fn,hf,by rw[hb];rfl,hn⟩,dC hflat,hrok,hlen,fun w κ ρ vals hs hr hok hH=> ?_⟩;have⟨κ2,hR2,hF2⟩:=hs0.2 _ _ _ _ (rM hca hs hr hok hH);refine calls_of_wp hf hb (wp_mono (jf (N:=fn.ntmps) hD c _ _ _ w κ2 ρ hcode h ⟨hR2,hF2,fun _ _=>rfl,hs0.1,pb hca hs⟩) fun e a' w' hq=> ?_);have key: ∀ {ex:bN} {s:St} {κ':Nat->BK} {ρ':Nat->Nat},Tg P fn r H' ex s->In fn.ntmps H.length w κ ρ s a' w' κ' ρ'->a'.defers=[]/\ ∃ v,(results fn a'.tmps).run P w'= .ok v w'/\ ∃ v' κ'' ρ'',Ending.returned v= .returned v'/\(∀ l,cm w' κ'' ρ'' l r v')/\yQ H' w' κ'' ρ''/\Fr w κ w' κ''/\ ∀ b,b<H.length->ρ'' b=ρ b:=by
  rintro ex s κ' ρ' ⟨_,ys,h1,h2,h3⟩ hI;have⟨v,vs,k1,k2,k3,k4,k5⟩:=nG hI.rel h1;refine⟨hI.rel.defers,v,k1,v,κ',ρ',rfl,fun l=> ?_,⟨fun b cs hb'=> ?_,fun b cs hb' x hx=> ?_⟩,hI.fr,hI.tX⟩
  ·rw[k2,← h2];exact va k3 k4 l
  ·rw[← h3,afd]at hb'
   split at hb'
   ·exact hI.rel.heap.eu b cs hb'
   ·cases hb'
  ·have:=abi.1 hHok (some cs) (ae9 hb')
   exact abi.1 this x hx
 cases e with
 |normal=>have⟨s,κ',ρ',hk,hI⟩:=hq;exact key hk hI
 |ret=>have⟨s,κ',ρ',hk,hI⟩:=hq;exact key hk hI
 |exit id=>have⟨s,κ',ρ',hk,hI⟩:=hq;exact hk.1.elim
 |goto l=>exact hq
 |panic ch=>exact False.elim hq
 |outgrown=>exact False.elim hq
def O0 (H:List (Option (List ab))):ab->ab
 | .arr b off len cap=>match H[b]? with
  |some (some cells)=>if len=cap then
   match ng (cells.drop off)with
   |some fs=> .f (.row fs len)
   |none=> .any
   else .any
  |_=> .any
 |x=>x
def fzT (H:List (Option (List ab))):bJ->bJ
 | .c x=> .c (O0 H x)
 | .agg cs=> .agg (cs.map (O0 H))
def xJ (P:Program) (fn:Func) (r:al) (e:bN) (s:St):Prop:=
 (match e with| .exit _=>False|_=>True)/\ ∃ ys,vl P s fn.results.toList=some ys/\H7 (ys.map (fzT s.H))=r
def gY (κ:Nat->BK) (g:Nat):BK:=
 match κ g with
 | .wr _=> .lock none
 |k=>k
def GQ {H:List (Option (List ab))} {x:ab} (h:x.flat=true):(O0 H x).flat=true:=by
 unfold O0;split
 ·split
  ·split
   ·split<;>rfl
   ·rfl
  ·rfl
 ·exact h
def LX {s:St} {a:Act} {w:World} {κ:Nat->BK} {ρ:Nat->Nat} (hR:Rel s a w κ ρ) {l:Loc} {x:ab} (hx:x.flat=true) (hok:x.ok s.H.length=true) (h:bZ w κ ρ l x v):bZ w (gY κ) ρ l (O0 s.H x) v:=by
 have hg:gS w κ w (gY κ):=fy fun g n hf=>by
  unfold gY;split
  ·trivial
  ·exact hf
 have gp:bZ w (gY κ) ρ l x v:=bZ.gp (n:=s.H.length) hg (fun _ _=>rfl) hok (fun _ _ _ _ e=>by rw[e]at hx;cases hx) h;unfold O0;split
 next b off len cap=>
  split
  next cells hb=>
   split
   next hlc=>
    split
    next fs Bp=>
     have hB:=hR.heap.eu b cells hb;have⟨f1,f2⟩:=kH _ fs Bp;have hv:v= .slice (some ⟨ρ b,off,none⟩) len cap:=h;rw[hv];refine iI ⟨ρ b,off,cap,rfl,by omega,⟨fun i hi=> ?_,fun hne=>⟨?_,?_⟩⟩⟩
     ·have hi2:off+i<cells.length:=by rw[f1,acX]at hi;omega
      have QC:=f2 i (by rw[← f1];exact hi) hi;rw[aec]at QC
      have⟨u,QL,CE⟩:=hB.cell (hB.qS (GE hi2) fun q es e=>by rw[e]at QC;cases QC) (off+i) hi2;exact⟨u,QL,(ab.qI CE QC).grow hg⟩
     ·exact hB.yn
     ·unfold gY;rw[hB.own];trivial
    ·trivial
   ·trivial
  ·trivial
 ·exact gp
def L0 {s:St} {a:Act} {w:World} {κ:Nat->BK} {ρ:Nat->Nat} (hR:Rel s a w κ ρ) {l:Loc} {x:bJ} (hok:x.ok s.H.length=true) (h:fJ w κ ρ l x v):fJ w (gY κ) ρ l (fzT s.H x) v:=by
 cases x with
 |c x=>exact⟨GQ h.1,LX hR h.1 hok h.2⟩
 |agg cs=>
  obtain⟨vs,rfl,hs,hr⟩:=h;refine⟨vs,rfl,by simpa using hs,fun i hi hi'=> ?_⟩;have hi2:i<cs.length:=by simpa using hi
  rw[abA];exact⟨GQ (hr i hi2 hi').1,LX hR (hr i hi2 hi').1 (abi.1 hok _ (acN hi2)) (hr i hi2 hi').2⟩
def Rm {P:Program} {D:Array Oper->St->(St->Prop)->Prop} (hD:qj P D) {c:Code} {args:List al} {r:al} (hf:P.funcs[f]? =some fn) (hb:fn.body=some c) (hn:(fn.name== "runtime.NumGoroutine")=false) (hca:args.length<=fn.ntmps) (hcode:codeOk fn.ntmps c=true)
  (hflat:Flat r=true) (hrok:r.ok 0=true) {s0:St} (hs0:dG 0 (entry fn args []) s0) (h:W P D 0 c s0 (xJ P fn r)):Ok P f args [] r []:=by
 refine⟨⟨fn,hf,by rw[hb];rfl,hn⟩,dC hflat,hrok,acE _,fun w κ ρ vals hs hr hok hH=> ?_⟩;have⟨κ2,hR2,hF2⟩:=hs0.2 _ _ _ _ (rM hca hs hr hok hH);refine calls_of_wp hf hb (wp_mono (jf (N:=fn.ntmps) hD c _ _ _ w κ2 ρ hcode h ⟨hR2,hF2,fun _ _=>rfl,hs0.1,pb hca hs⟩) fun e a' w' hq=> ?_);have key: ∀ {ex:bN} {s:St} {κ':Nat->BK} {ρ':Nat->Nat},xJ P fn r ex s->In fn.ntmps 0 w κ ρ s a' w' κ' ρ'->a'.defers=[]/\ ∃ v,(results fn a'.tmps).run P w'= .ok v w'/\ ∃ v' κ'' ρ'',Ending.returned v= .returned v'/\(∀ l,cm w' κ'' ρ'' l r v')/\yQ [] w' κ'' ρ''/\Fr w κ w' κ''/\ ∀ b,b<0->ρ'' b=ρ b:=by
  rintro ex s κ' ρ' ⟨_,ys,h1,h2⟩ hI;have⟨v,vs,k1,k2,k3,k4,k5⟩:=nG hI.rel h1;have hg:gS w' κ' w' (gY κ'):=fy fun g n hf=>by
   unfold gY;split
   ·trivial
   ·exact hf
  refine⟨hI.rel.defers,v,k1,v,gY κ',ρ',rfl,fun l=> ?_,⟨fun b cs h=>by simp at h,fun b cs h=>by simp at h⟩,hI.fr.trans ⟨rfl,rfl,rfl,acE _,fun g n _ hl=>⟨by unfold gY;rw[hl],rfl⟩,hg⟩,fun b hb=>by omega⟩;rw[k2,← h2];refine va (by simpa using k3) (fun i hi hi' l=> ?_) l;have hi2:i<ys.length:=by simpa using hi
  rw[abA];exact L0 hI.rel (k5 _ (acN hi2)) (k4 i hi2 hi' l)
 cases e with
 |normal=>have⟨s,κ',ρ',hk,hI⟩:=hq;exact key hk hI
 |ret=>have⟨s,κ',ρ',hk,hI⟩:=hq;exact key hk hI
 |exit id=>have⟨s,κ',ρ',hk,hI⟩:=hq;exact hk.1.elim
 |goto l=>exact hq
 |panic ch=>exact False.elim hq
 |outgrown=>exact False.elim hq
inductive ab.Le:ab->ab->Prop
 |refl (x:ab):Le x x
 |any (x:ab) (h:jo [x]=true):Le x .any
 |kJ:Le (.f .aD) (.f (.row [] 0))
 |jj (q:Bool) (sz:Nat):Le (.f .aD) (.bB q sz [] 0)
 |jX (sz:Nat) (cs:List au) (len:Nat):Le (.bB true sz cs len) (.f (.row cs len))
 |lS (sz:Nat) (cs:List au) (len:Nat):Le (.bB false sz cs len) (.f (.row [] len))
def ab.Le.Ow {x y:ab} (h:ab.Le x y) {w:World} {κ:Nat->BK} {ρ:Nat->Nat} {l:Loc} (hx:bZ w κ ρ l x v):bZ w κ ρ l y v:=by
 cases h with
 |refl=>exact hx
 |any=>trivial
 |kJ=>exact bZ.nz (x:= .f .aD) hx
 |jj q sz=>exact .inr ⟨rfl,rfl,eU.1 hx⟩
 |jX sz cs len=>exact bZ.aZ (x:= .bB true sz cs len) hx
 |lS sz cs len=>exact bZ.aZ (x:= .bB false sz cs len) hx
def ab.Le.ok {x y:ab} (h:ab.Le x y) {n:Nat} (hx:x.ok n=true):y.ok n=true:=by
 cases h with
 |refl=>exact hx
 |_=>rfl
inductive xH:List ab->List ab->Prop
 |nil:xH [] []
 |cons {x y:ab} {l m:List ab} (h:ab.Le x y) (t:xH l m):xH (x::l) (y::m)
def xH.refl: ∀ l,xH l l
 |[]=> .nil
 |x::l=> .cons (.refl x) (xH.refl l)
def xH.get: ∀ {l m:List ab},xH l m->l.length=m.length/\ ∀ i (h:i<l.length) (h':i<m.length),ab.Le l[i] m[i]
 |_,_,.nil=>⟨rfl,fun i h=>by simp at h⟩
 |_,_,.cons h t=>⟨by simp[(xH.get t).1],fun i hi hi'=>by
  cases i with
  |zero=>exact h
  |succ i=>exact(xH.get t).2 i (by simpa using hi) (by simpa using hi')⟩
inductive Bk:List (Option (List ab))->List (Option (List ab))->Prop
 |nil:Bk [] []
 |none {x:Option (List ab)} {l m:List (Option (List ab))} (t:Bk l m):Bk (x::l) (afz::m)
 |some {x y:List ab} {l m:List (Option (List ab))} (h:xH x y) (t:Bk l m):Bk (ac8 x::l) (ac8 y::m)
def Bk.refl: ∀ l,Bk l l
 |[]=> .nil
 |afz::l=> .none (Bk.refl l)
 |ac8 x::l=> .some (xH.refl x) (Bk.refl l)
def Bk.get: ∀ {l m:List (Option (List ab))},Bk l m->l.length=m.length/\ ∀ (b:Nat) (cs:List ab),m[b]? =ac8 (ac8 cs)-> ∃ ds,l[b]? =ac8 (ac8 ds)/\xH ds cs
 |_,_,.nil=>⟨rfl,fun b cs h=>by simp at h⟩
 |_,_,.none t=>⟨by simp[(Bk.get t).1],fun b cs h=>by
  cases b with
  |zero=>simp at h
  |succ b=>exact(Bk.get t).2 b cs (by simpa using h)⟩
 |_,_,.some hh t=>⟨by simp[(Bk.get t).1],fun b cs h=>by
  cases b with
  |zero=>simp at h;subst h;exact⟨_,rfl,hh⟩
  |succ b=>exact(Bk.get t).2 b cs (by simpa using h)⟩
inductive al.Le:al->al->Prop
 |refl (x:al):Le x x
 |any (x:al):Le x (.c .any)
 |c {x y:ab} (h:ab.Le x y):Le (.c x) (.c y)
def al.Le.Ow {x y:al} (h:al.Le x y) {w:World} {κ:Nat->BK} {ρ:Nat->Nat} {l:Loc} {v:Value} (hx:cm w κ ρ l x v):cm w κ ρ l y v:=by
 cases h with
 |refl=>exact hx
 |any=>trivial
 |c h=>exact ab.Le.Ow h hx
def al.Le.ok {x y:al} (h:al.Le x y) {n:Nat} (hx:x.ok n=true):y.ok n=true:=by
 cases h with
 |refl=>exact hx
 |any=>rfl
 |c h=>exact ab.Le.ok h hx
def MZ {n0:Nat} {s s2:St} (h0:n0<=s.H.length) (hH:Bk s.H s2.H) (h: ∀ i,al.Le (s.sl i) (s2.sl i)) (ho: ∀ i,s.sl i= .c .any->s2.sl i= .c .any):dG n0 s s2:=by
 have⟨hl,hg⟩:=hH.get;refine .i (by rw[← hl];exact h0) fun a w κ ρ hR=>⟨hR.defers,fun i hi'=>(h i).Ow (hR.slot i hi'),fun i hi=>ho i (hR.out i hi),fun i=>by rw[← hl];exact(h i).ok (hR.ok i),⟨fun b cs hb=> ?_,fun b cs hb x hx=> ?_⟩⟩
 ·have⟨ds,h1,h2⟩:=hg b cs hb
  have⟨k1,k2⟩:=h2.get;have hB:=hR.heap.eu b ds h1;rcases hB.obj with ⟨c,e,b1,b2,b3⟩|⟨q,es,en,ck,rfl,hM⟩
  ·exact⟨hB.own,.inl ⟨c,e,b1,by omega,fun i hi hi'=>(k2 i (by omega) hi).Ow (b3 i (by omega) hi')⟩⟩
  ·refine⟨hB.own,.inr ?_⟩
   match cs,k1 with
   |[y],_=>
    have h2:ab.Le (.mp q es) y:=k2 0 (by simp) (by simp);have e1:y= .mp q es:=by
     cases h2 with
     |refl=>rfl
     |any _ h=>cases h
    rw[e1];exact⟨q,es,en,ck,rfl,hM⟩
 ·have⟨ds,h1,h2⟩:=hg b cs hb
  have⟨k1,k2⟩:=h2.get;obtain⟨i,hi,rfl⟩:=List.mem_iff_getElem.1 hx;rw[← hl];exact(k2 i (by omega) hi).ok (hR.heap.ok b ds h1 _ (acN (by omega)))
section
variable {P:Program} {ops:Array Oper} {tr:Bool} {s s':St} {o:Oper}
def pF: ∀ (ps:List (Nat×Operand)),(∀ x∈ps.map (·.2),s.ev x=s'.ev x)->gV s ps=gV s' ps
 |[],_=>rfl
 |(i,x)::rest,h=>by
  have h1:=h x (by simp);have h2:=pF rest fun y hy=>h y (by simp at hy⊢;exact .inr hy);simp[gV,h1,h2]
def uj (h: ∀ x∈o.op.operands,s.ev x=s'.ev x):dz P s o=dz P s' o:=by
 unfold dz;have h1:(o.op.operands.toList.all fun x=>(s.ev x).jl.isSome)=o.op.operands.toList.all fun x=>(s'.ev x).jl.isSome:=by
  rw[Bool.eq_iff_iff,abi,abi];constructor
  ·intro k x hx;have:=k x hx;rwa [h x (by simpa using hx)]at this
  ·intro k x hx;have:=k x hx;rwa [← h x (by simpa using hx)]at this
 rw[h1];by_cases hs:Ha o.op=true
 ·simp[hs]
 ·rw[execOp_congr (ρ:=s.env) (ρ':=s'.env) o (fun cs b e=>hs (by rw[e];rfl)) (fun x hx=>by unfold St.env;rw[h x hx])]
def xi {x:Operand} (h:s.ev x=s'.ev x):holds s x=holds s' x:=by
 unfold holds;cases x with
 |tmp t=>simp[h]
 |_=>rfl
def vU {x:Option Operand} {d:Int} (h: ∀ y,x=some y->s.ev y=s'.ev y):jg s x d=jg s' x d:=by
 cases x with
 |none=>rfl
 |some y=>simp[jg,h y rfl]
def blind:Op->Bool
 | .load .. =>false
 | .call _=>false
 | .store .. =>false
 | .alloc _=>false
 | .box .. =>false
 | .makeSlice .. =>false
 |_=>true
def Ni (hb:blind o.op=true) (h: ∀ x∈o.op.operands,s.ev x=s'.ev x):np P tr s o=np P tr s' o:=by
 have hp:dz P s o=dz P s' o:=uj h;have⟨dst,op,type,pos,after,guard⟩:=o;cases op<;>simp only[blind]at hb<;>first|cases hb|skip
 all_goals simp only[aca]at h
 case move x=>
  simp only[np,il,h x (by simp)]
 case assign x=>
  simp only[np,il,h x (by simp)]
 case pick c x y=>
  simp only[np,wS,h c (by simp),h x (by simp),h y (by simp)]
 case fieldAddr t x f=>
  simp only[np,fT,h x (by simp)]
 case indexAddr t x i=>
  simp only[np,eW,h x (by simp),h i (by simp)]
 case nilCheck x=>
  simp only[np,Bx,h x (by simp)]
 case extract x i=>
  simp only[np,kP,h x (by simp)]
 case field t x f=>
  simp only[np,qu,h x (by simp)]
 case index t x i=>
  simp only[np,oZ,h x (by simp),h i (by simp),hp]
 case build t ps=>
  simp only[np,qs,pF ps.toList (s:=s) (s':=s') (fun x hx=>h x (by simpa using hx))]
 case buildSlice t n ps=>
  simp only[np,gu,pF ps.toList (s:=s) (s':=s') (fun x hx=>h x (by simpa using hx))]
 case slice t x lo hi mx=>
  have h1: ∀ d,jg s lo d=jg s' lo d:=fun d=>vU fun y e=>h y (by simp[e]);have h2: ∀ d,jg s hi d=jg s' hi d:=fun d=>vU fun y e=>h y (by simp[e]);have h3: ∀ d,jg s mx d=jg s' mx d:=fun d=>vU fun y e=>h y (by simp[e]);simp only[np,fD,h x (by simp),h1,h2,h3,hp]
 case convert t u x=>
  simp only[np,ik,h x (by simp),hp]
 all_goals exact hp
def makes:Op->Bool
 | .alloc _=>true
 | .box .. =>true
 | .makeSlice .. =>true
 |_=>false
def ab.see:ab->ab
 | .mp q es=> .mp q es
 |x=>x.aZ
def ab.MF {x y:ab} (h:x.see=y.see):x.aZ=y.aZ:=by
 cases x<;>cases y<;>first|exact h|rfl|cases h|(rename_i q _ _ _ _ _;cases q<;>cases h)|(rename_i q _ _ _;cases q<;>cases h)
def R3 {l m:List ab} (h:l.map ab.see=m.map ab.see):jo l=jo m:=by
 cases l with
 |nil=>cases m with
  |nil=>rfl
  |cons=>cases h
 |cons x l=>cases m with
  |nil=>cases h
  |cons y m=>
   rw[abh,abh]at h
   injection h with h;cases x<;>cases y<;>first|rfl|cases h|(rename_i q _ _ _ _ _;cases q<;>cases h)|(rename_i q _ _ _;cases q<;>cases h)
def Vx {l m:List ab} (h:l.map ab.see=m.map ab.see):l.map ab.aZ=m.map ab.aZ:=by
 induction l generalizing m with
 |nil=>cases m with
  |nil=>rfl
  |cons=>cases h
 |cons x l ih=>cases m with
  |nil=>cases h
  |cons y m=>
   rw[abh,abh]at h
   injection h with h1 h2;rw[abh,abh,ab.MF h1,ih h2]
def iD (H:List (Option (List ab))) (b:Nat):Option (Option (List ab)):=(H[b]?).map (Option.map (List.map ab.see))
def Nv {H H':List (Option (List ab))} {b:Nat} (h:iD H b=iD H' b):(∃ cs ds,H[b]? =some (some cs)/\H'[b]? =some (some ds)/\cs.map ab.see=ds.map ab.see)\/((∀ cs,H[b]? ≠some (some cs))/\ ∀ cs,H'[b]? ≠some (some cs)):=by
 unfold iD at h;cases h1:H[b]? with
 |none=>cases h2:H'[b]? with
  |none=>exact .inr ⟨fun _ e=>(by cases e),fun _ e=>(by cases e)⟩
  |some y=>rw[h1,h2]at h;cases h
 |some x=>cases h2:H'[b]? with
  |none=>rw[h1,h2]at h;cases h
  |some y=>
   rw[h1,h2]at h
   cases x with
   |none=>cases y with
    |none=>exact .inr ⟨fun _ e=>(by cases e),fun _ e=>(by cases e)⟩
    |some ds=>cases h
   |some cs=>cases y with
    |none=>cases h
    |some ds=>exact .inl ⟨cs,ds,rfl,rfl,by simpa using h⟩
def Jz {t:TypeId} {x:Operand} (hx:s.ev x=s'.ev x) (hf: ∀ b∈qZ (s.ev x),iD s.H b=iD s'.H b):fY P false s t x=fY P false s' t x:=by
 unfold fY;rw[← hx];cases hv:s.ev x with
 |c v=>
  cases v with
  |ptr b off=>
   have e:=hf b (by rw[hv];simp[qZ]);cases rW P t with
   |none=>rfl
   |some q=>
    have⟨q1,q2⟩:=q;rcases Nv e with ⟨cs,ds,e1,e2,e3⟩|⟨e1,e2⟩
    ·have hl:cs.length=ds.length:=by simpa using congrArg ac0 e3
     cases q1
     ·dsimp only
      rw[e1,e2];dsimp only;have e4:(cs[off]?).map ab.see=(ds[off]?).map ab.see:=by rw[← abj,← abj,e3]
      cases h1:cs[off]? with
      |none=>cases h2:ds[off]? with
       |none=>rfl
       |some z=>rw[h1,h2]at e4;cases e4
      |some y=>cases h2:ds[off]? with
       |none=>rw[h1,h2]at e4;cases e4
       |some z=>
        rw[h1,h2]at e4
        have e5:y.see=z.see:=by simpa using e4
        have e6:=ab.MF e5;cases y<;>cases z<;>first|rfl|(cases e5;done)|(simp[e6];done)|(rename_i q _ _ _ _ _;cases q<;>cases e5)|(rename_i q _ _ _;cases q<;>cases e5)
     ·dsimp only
      rw[e1,e2];dsimp only;rw[hl,R3 e3];replace e3:=Vx e3;have e4:((cs.drop off).take q2).map ab.aZ=((ds.drop off).take q2).map ab.aZ:=by rw[adw,adw,adx,adx,e3]
      rw[e4]
    ·have n1: ∀ {α:Type} (f:List ab->α) (g:α),(match s.H[b]? with|some (some cells)=>f cells|_=>g)=g:=fun f g=>by
      cases h1:s.H[b]? with
      |none=>rfl
      |some z=>cases z with
       |none=>rfl
       |some cs=>exact absurd h1 (e1 cs)
     have n2: ∀ {α:Type} (f:List ab->α) (g:α),(match s'.H[b]? with|some (some cells)=>f cells|_=>g)=g:=fun f g=>by
      cases h1:s'.H[b]? with
      |none=>rfl
      |some z=>cases z with
       |none=>rfl
       |some cs=>exact absurd h1 (e2 cs)
     cases q1
     ·exact(n1 _ _).trans (n2 _ _).symm
     ·exact(n1 _ _).trans (n2 _ _).symm
  |f y=>cases rW P t with
   |none=>rfl
   |some q=>have⟨q1,q2⟩:=q;cases q1<;>cases y<;>rfl
  |_=>cases rW P t with
   |none=>rfl
   |some q=>have⟨q1,q2⟩:=q;cases q1<;>rfl
 |_=>cases rW P t with
  |none=>rfl
  |some q=>have⟨q1,q2⟩:=q;cases q1<;>rfl
def TR (h: ∀ x∈o.op.operands,s.ev x=s'.ev x) (hf: ∀ b∈ou tr s o,s.H[b]? =s'.H[b]?) (iy: ∀ b∈xV tr s o,iD s.H b=iD s'.H b) (hl:makes o.op=true->s.H.length=s'.H.length):np P tr s o=np P tr s' o:=by
 by_cases hb:blind o.op=true
 ·exact Ni hb h
 have hp:dz P s o=dz P s' o:=uj h;have⟨dst,op,type,pos,after,guard⟩:=o;cases op<;>simp only[blind]at hb<;>first|exact absurd rfl hb|exact absurd trivial hb|skip
 all_goals simp only[aca]at h
 case alloc t=>simp only[np,oY,hl rfl]
 case box t x=>simp only[np,DO,hl rfl,h x (by simp)]
 case load t x=>
  simp only[ou]at hf;simp only[xV]at iy;have hx:=h x (by simp);simp only[np];cases tr with
  |false=>
   simp only[Bool.false_eq_true,if_false]at iy;exact Jz hx iy
  |true=>
   simp only[if_true]at hf;simp only[fY,← hx];cases hv:s.ev x with
   |c v=>
    cases v with
    |ptr b off=>
     have e:=hf b (by rw[hv];simp[qZ]);cases rW P t with
     |none=>rfl
     |some q=>have⟨q1,q2⟩:=q;cases q1<;>simp only[e]
    |f y=>cases rW P t with
     |none=>rfl
     |some q=>have⟨q1,q2⟩:=q;cases q1<;>cases y<;>rfl
    |_=>cases rW P t with
     |none=>rfl
     |some q=>have⟨q1,q2⟩:=q;cases q1<;>rfl
   |_=>cases rW P t with
    |none=>rfl
    |some q=>have⟨q1,q2⟩:=q;cases q1<;>rfl
 case store t x y=>
  simp only[ou]at hf;have hx:=h x (by simp);have hy:=h y (by simp);simp only[np,nK,← hx,← hy,← xi hy];cases hv:s.ev x with
  |c v=>
   cases v with
   |ptr b off=>
    have e:=hf b (by rw[hv];simp[qZ]);cases rW P t with
    |none=>rfl
    |some q=>have⟨q1,q2⟩:=q;simp only[e]
   |_=>cases rW P t<;>rfl
  |_=>cases rW P t<;>rfl
 case makeSlice t l c=>simp only[np,ui,hl rfl,h l (by simp),h c (by simp)]
 case call c=>
  simp only[ou]at hf;simp only[np];unfold Ca;split
  next x t h1 h2 h3=>
   have hx:x∈c.args:=by rw[← abt,h2];simp
   simp only[td,h x (by simp[acL,hx]),hp]
  next x y t tx h1 h2 h3=>
   have hx:x∈c.args:=by rw[← abt,h2];simp
   have hy:y∈c.args:=by rw[← abt,h2];simp
   have BI:=h x (by simp[acL,hx]);have xY:=h y (by simp[acL,hy]);rw[h2]at hf
   have iR: ∀ sz,bQ P s sz tx y=bQ P s' sz tx y:=by
    intro sz;unfold bQ;rw[← xY];cases hv:(s.ev y).aZ with
    |c v=>
     cases v with
     |arr b off n cap=>
      have e:=hf b (by show b∈jF (s.ev x).aZ++jF (s.ev y).aZ;rw[hv];simp[jF]);simp only[e]
     |f q=>cases q<;>rfl
     |_=>rfl
    |_=>rfl
   have e1:gW P s t tx x y=gW P s' t tx x y:=by simp only[gW,iR,← BI,xi BI]
   have e2:qv P s t tx x y=qv P s' t tx x y:=by
    unfold qv;rw[← BI];cases bK P t with
    |none=>rfl
    |some z=>
     cases hv:(s.ev x).aZ with
     |c v=>
      cases v with
      |arr b off n cap=>
       have e:=hf b (by show b∈jF (s.ev x).aZ++jF (s.ev y).aZ;rw[hv];simp[jF]);dsimp only;rw[iR z,e]
      |_=>rfl
     |_=>rfl
   show vO P s t tx x y=vO P s' t tx x y;unfold vO;rw[e1,e2]
  next x y t tx h1 h2 h3=>
   have hx:x∈c.args:=by rw[← abt,h2];simp
   have hy:y∈c.args:=by rw[← abt,h2];simp
   have BI:=h x (by simp[acL,hx]);have xY:=h y (by simp[acL,hy]);rw[h2]at hf
   have iR: ∀ sz,bQ P s sz tx y=bQ P s' sz tx y:=by
    intro sz;unfold bQ;rw[← xY];cases hv:(s.ev y).aZ with
    |c v=>
     cases v with
     |arr b off n cap=>
      have e:=hf b (by show b∈jF (s.ev x).aZ++jF (s.ev y).aZ;rw[hv];simp[jF]);simp only[e]
     |f q=>cases q<;>rfl
     |_=>rfl
    |_=>rfl
   show sJ P s t tx x y=sJ P s' t tx x y;unfold sJ;rw[← BI];cases bK P t with
   |none=>rfl
   |some z=>
    cases hv:(s.ev x).aZ with
    |c v=>
     cases v with
     |arr b off n cap=>
      have e:=hf b (by show b∈jF (s.ev x).aZ++jF (s.ev y).aZ;rw[hv];simp[jF]);dsimp only;rw[iR z,e]
     |_=>rfl
    |_=>rfl
  ·exact hp
def DZ {x:al} {c:gA} {b:Nat} {cs:List ab} (h:np P tr s o=some (x,c)) (hb:c.eu=some (b,cs)):b∈ou tr s o/\b<s.H.length/\c.new=none/\(wj o.op=true->iD (s.H.set b (some cs)) b=iD s.H b):=by
 have no: ∀ {y:al} {c':gA},c'.eu=none->some (y,c')=some (x,c)->False:=fun{y c'} hn e=>by
  injection e with e;injection e with _ e;subst e;rw[hn]at hb;cases hb
 have plain: ∀ {o:Oper},dz P s o=some (x,c)->False:=fun{o} h=>by
  unfold dz at h;split at h
  ·split at h
   ·exact no rfl h
   ·cases h
  ·cases h
 have mv: ∀ {t:Bool} {y:Operand},some (il t s y)=some (x,c)->False:=fun{t y} h=>by
  unfold il at h;split at h
  ·exact no rfl h
  ·exact no rfl h
 have lt: ∀ {b:Nat} {cells:List ab},s.H[b]? =some (some cells)->b<s.H.length:=fun{b cells} e=>(abq.1 e).1;have⟨dst,op,type,pos,after,guard⟩:=o;cases op<;>simp only[np]at h
 case move y=>exact(mv h).elim
 case assign y=>exact(mv h).elim
 case load t y=>
  unfold fY at h;split at h
  ·split at h
   ·exact(no rfl h).elim
   ·cases h
  ·split at h
   ·exact(no rfl h).elim
   ·cases h
  next hv=>
   split at h
   next cells hc=>
    split at h
    next y0 UF=>
     split at h
     ·injection h with e;injection e with _ e;subst e
      injection hb with hb;injection hb with hb hcs;subst hb;subst hcs;refine⟨by simp[ou,hv,qZ],lt hc,rfl,fun _=> ?_⟩;unfold iD;rw[adL (lt hc),hc];simp only[adK];congr 2;apply List.ext_getElem
      ·simp
      ·intro i h1 h2
       simp only[abA,List.getElem_modify];split
       next e=>
        have⟨_,hy⟩:=abq.1 UF;subst e;rw[hy];rename_i q _ _ _ _ _ _ _ _
        first|rfl|(cases ‹Bool› <;>rfl)
       ·rfl
     ·cases h
     ·exact(no rfl h).elim
    ·cases h
   ·cases h
  ·split at h
   ·split at h
    ·exact(no rfl h).elim
    ·cases h
   ·cases h
  ·cases h
 case store t y z=>
  unfold nK at h;split at h
  next hv=>
   split at h
   next cells hc=>
    split at h
    ·split at h
     ·injection h with e;injection e with _ e;subst e
      injection hb with hb;injection hb with hb _;subst hb;exact⟨by simp[ou,hv,qZ],lt hc,rfl,fun e=>by cases e⟩
     ·cases h
    ·split at h
     ·split at h
      ·injection h with e;injection e with _ e;subst e
       injection hb with hb;injection hb with hb _;subst hb;exact⟨by simp[ou,hv,qZ],lt hc,rfl,fun e=>by cases e⟩
      ·cases h
     ·cases h
   ·cases h
  ·cases h
 case call cl=>
  unfold Ca at h;split at h
  ·exfalso
   unfold td at h;repeat'(first|exact plain h|exact no rfl h|(split at h)|fail)
  next y z t tx h1 h2 h3=>
   rcases tb h with h|h
   ·exfalso
    unfold gW at h;repeat'(first|exact no rfl h|(split at h)|(cases h;done)|fail)
   unfold qv at h;split at h
   next hv=>
    split at h
    next hc=>
     split at h
     ·injection h with e;injection e with _ e;subst e
      injection hb with hb;injection hb with hb _;subst hb;exact⟨by simp[ou,h2,hv,jF],lt hc,rfl,fun e=>by cases e⟩
     ·cases h
    ·cases h
   ·cases h
  next y z t tx h1 h2 h3=>
   unfold sJ at h;split at h
   next hv=>
    split at h
    next hc=>
     split at h
     ·injection h with e;injection e with _ e;subst e
      injection hb with hb;injection hb with hb _;subst hb;exact⟨by simp[ou,h2,hv,jF],lt hc,rfl,fun e=>by cases e⟩
     ·cases h
    ·cases h
   ·cases h
  ·exact(plain h).elim
 all_goals exfalso
 all_goals first
  |exact plain h
  |(unfold wS at h;(repeat'(first|exact no rfl h|(split at h)|(cases h;done)|fail));done)
  |(unfold oY at h;(repeat'(first|exact no rfl h|(split at h)|(cases h;done)|fail));done)
  |(unfold DO at h;(repeat'(first|exact no rfl h|(split at h)|(cases h;done)|fail));done)
  |(unfold fT at h;(repeat'(first|exact no rfl h|(split at h)|(cases h;done)|fail));done)
  |(unfold eW at h;(repeat'(first|exact no rfl h|(split at h)|(cases h;done)|fail));done)
  |(unfold Bx at h;(repeat'(first|exact no rfl h|(split at h)|(cases h;done)|fail));done)
  |(unfold kP at h;(repeat'(first|exact no rfl h|(split at h)|(cases h;done)|fail));done)
  |(unfold qu at h;(repeat'(first|exact no rfl h|(split at h)|(cases h;done)|fail));done)
  |(unfold oZ at h;(repeat'(first|exact plain h|exact no rfl h|(split at h)|(cases h;done)|fail));done)
  |(unfold qs at h;(repeat'(first|exact no rfl h|(split at h)|(cases h;done)|fail));done)
  |(unfold gu at h;(repeat'(first|exact no rfl h|(split at h)|(cases h;done)|fail));done)
  |(unfold ui at h;(repeat'(first|exact no rfl h|(split at h)|(cases h;done)|fail));done)
  |(unfold fD at h;(repeat'(first|exact plain h|exact no rfl h|(split at h)|(cases h;done)|fail));done)
  |(unfold ik at h;(repeat'(first|exact plain h|exact no rfl h|(split at h)|(cases h;done)|fail));done)
def TS {x:al} {c:gA} (h:np P tr s o=some (x,c)) (hm:makes o.op=true):c.new.isSome=true:=by
 have⟨dst,op,type,pos,after,guard⟩:=o;cases op<;>simp[makes]at hm<;>first|(cases hm;done)|skip
 ·simp[np,oY]at h
  split at h
  ·injection h with h;injection h with _ h;subst h;rfl
  ·cases h
 ·simp[np,DO]at h
  split at h
  ·injection h with h;injection h with _ h;subst h;rfl
  ·cases h
 ·simp[np,ui]at h
  repeat'(first|(split at h)|(injection h with h;injection h with _ h;subst h;rfl)|(cases h;done)|fail)
def TQ {x:al} {c:gA} {u:Tmp} (h:np P tr s o=some (x,c)) (hu:c.aZ=some u):adQ u∈o.op.operands:=by
 have plain: ∀ {o:Oper},dz P s o=some (x,c)->False:=fun{o} h=>by
  unfold dz at h;split at h
  ·split at h
   ·injection h with h;injection h with _ h2;subst h2;cases hu
   ·cases h
  ·cases h
 have mv: ∀ {t:Bool} {y:Operand},il t s y=(x,c)->adQ u=y:=fun{t y} h=>by
  unfold il at h;split at h
  ·injection h with _ h2;subst h2;injection hu with hu;rw[hu]
  ·injection h with _ h2;subst h2;cases hu
 have⟨dst,op,type,pos,after,guard⟩:=o;cases op<;>simp only[np]at h<;>simp only[aca]
 case move y=>injection h with h;simp[mv h]
 case assign y=>injection h with h;simp[mv h]
 case pick a b d=>
  unfold wS at h;split at h<;>first|(injection h with h;injection h with _ h2;subst h2;cases hu)|cases h
 case alloc t=>
  unfold oY at h;split at h<;>first|(injection h with h;injection h with _ h2;subst h2;cases hu)|cases h
 case box t y=>
  unfold DO at h;split at h<;>first|(injection h with h;injection h with _ h2;subst h2;cases hu)|cases h
 case load t y=>
  exfalso;unfold fY at h;repeat'(first|(split at h)|(injection h with h;injection h with _ h2;subst h2;cases hu)|cases h|fail)
 case store t y z=>
  unfold nK at h;split at h
  ·split at h
   ·split at h
    next hh=>
     split at h
     ·injection h with h;injection h with _ h2;subst h2;injection hu with hu
      subst hu;unfold holds at hh;split at hh
      ·split at hh
       ·injection hh with hh;injection hh with hh _;subst hh;simp
       ·cases hh
      ·cases hh
     ·cases h
    ·repeat'(first|(split at h)|(injection h with h;injection h with _ h2;subst h2;cases hu)|cases h|fail)
   ·cases h
  ·cases h
 case fieldAddr t y f=>
  exfalso;unfold fT at h;repeat'(first|(split at h)|(injection h with h;injection h with _ h2;subst h2;cases hu)|cases h|fail)
 case indexAddr t y f=>
  exfalso;unfold eW at h;repeat'(first|(split at h)|(injection h with h;injection h with _ h2;subst h2;cases hu)|cases h|fail)
 case nilCheck y=>
  exfalso;unfold Bx at h;repeat'(first|(split at h)|(injection h with h;injection h with _ h2;subst h2;cases hu)|cases h|fail)
 case extract y i=>
  exfalso;unfold kP at h;repeat'(first|(split at h)|(injection h with h;injection h with _ h2;subst h2;cases hu)|cases h|fail)
 case field t y f=>
  exfalso;unfold qu at h;repeat'(first|(split at h)|(injection h with h;injection h with _ h2;subst h2;cases hu)|cases h|fail)
 case index t y i=>
  exfalso;unfold oZ at h;repeat'(first|exact plain h|(split at h)|(injection h with h;injection h with _ h2;subst h2;cases hu)|cases h|fail)
 case build t ps=>
  exfalso;unfold qs at h;repeat'(first|(split at h)|(injection h with h;injection h with _ h2;subst h2;cases hu)|cases h|fail)
 case buildSlice t n ps=>
  exfalso;unfold gu at h;repeat'(first|(split at h)|(injection h with h;injection h with _ h2;subst h2;cases hu)|cases h|fail)
 case makeSlice t l c=>
  exfalso;unfold ui at h;repeat'(first|(split at h)|(injection h with h;injection h with _ h2;subst h2;cases hu)|cases h|fail)
 case slice t y lo hi mx=>
  exfalso;unfold fD at h;repeat'(first|exact plain h|(split at h)|(injection h with h;injection h with _ h2;subst h2;cases hu)|cases h|fail)
 case convert t u' y=>
  exfalso;unfold ik at h;repeat'(first|exact plain h|(split at h)|(injection h with h;injection h with _ h2;subst h2;cases hu)|cases h|fail)
 case call cl=>
  unfold Ca at h;split at h
  ·exfalso
   unfold td at h;repeat'(first|exact plain h|(split at h)|(injection h with h;injection h with _ h2;subst h2;cases hu)|fail)
  next y z t tx h1 h2 h3=>
   rcases tb h with h|h
   rotate_left
   ·exfalso
    unfold qv at h;repeat'(first|(split at h)|(injection h with h;injection h with _ h2;subst h2;cases hu)|cases h|fail)
   unfold gW at h;split at h
   ·split at h
    ·split at h
     next hh=>
      split at h
      ·injection h with h;injection h with _ h2;subst h2;injection hu with hu
       subst hu;unfold holds at hh;split at hh
       ·split at hh
        ·injection hh with hh;injection hh with hh _;subst hh
         have hx: ∀ y∈cl.args.toList,y∈cl.operands:=fun y hy=>by simp[acL,abt.1 hy]
         exact hx _ (by rw[h2];simp)
        ·cases hh
       ·cases hh
      ·cases h
     ·exfalso
      repeat'(first|(split at h)|(injection h with h;injection h with _ h2;subst h2;cases hu)|cases h|fail)
    ·cases h
   ·cases h
  ·exfalso
   unfold sJ at h;repeat'(first|(split at h)|(injection h with h;injection h with _ h2;subst h2;cases hu)|cases h|fail)
  ·exact(plain h).elim
 all_goals exact(plain h).elim
end
section
variable {P:Program} {ops:Array Oper} {s s' s1 s2:St} {o:Oper} {c:Cl}
def Step (P:Program) (ops:Array Oper) (c:Cl) (o:Oper) (s s':St):Prop:=vD P ops o s fun c' s2=>c'=c/\s2=s'
def yS {K K':Cl->al->St->Prop} (h: ∀ c r s,K c r s->K' c r s) (hh:FV P f xs s K):FV P f xs s K':=by
 rcases hh with ⟨r,h1,h2,h3⟩|⟨bs,L,cG,Hs,Hs',r,hO,h1,h2,h3,h4,h5,h6,h7,h8,h9,hk⟩
 ·exact .inl ⟨r,h1,h2,h _ _ _ h3⟩
 ·exact .inr ⟨bs,L,cG,Hs,Hs',r,hO,h1,h2,h3,h4,h5,h6,h7,h8,h9,h _ _ _ hk⟩
def Po {K:Cl->al->St->Prop} (hh:FV P f xs s K): ∃ c r s',K c r s'/\FV P f xs s fun c' r' s2=>c'=c/\r'=r/\s2=s':=by
 rcases hh with ⟨r,h1,h2,h3⟩|⟨bs,L,cG,Hs,Hs',r,hO,h1,h2,h3,h4,h5,h6,h7,h8,h9,hk⟩
 ·exact⟨_,_,_,h3,.inl ⟨r,h1,h2,rfl,rfl,rfl⟩⟩
 ·exact⟨_,_,_,hk,.inr ⟨bs,L,cG,Hs,Hs',r,hO,h1,h2,h3,h4,h5,h6,h7,h8,h9,rfl,rfl,rfl⟩⟩
def Nb {K K':Cl->St->Prop} (h: ∀ c s,K c s->K' c s) (hh:Xa P ops o s K):Xa P ops o s K':=by
 rcases hh with ⟨x,c,h1,h2⟩|⟨v,h1,h2⟩|⟨x,c,fp,h1,h2⟩
 ·exact .inl ⟨x,c,h1,h _ _ h2⟩
 ·exact .inr (.inl ⟨v,h1,h _ _ h2⟩)
 ·exact .inr (.inr ⟨x,c,fp,h1,h _ _ h2⟩)
def qo {K K':Cl->St->Prop} (h: ∀ c s,K c s->K' c s) (hh:vD P ops o s K):vD P ops o s K':=by
 unfold vD at*;cases hw:dF ops s o with
 |none=>rw[hw]at hh;exact hh
 |some t=>
  rw[hw]at hh
  dsimp only at hh⊢;cases t with
  |false=>exact h _ _ hh
  |true=>
   simp[if_true]at hh⊢;cases hc:dn o with
   |some fx=>
    rw[hc]at hh
    dsimp only at hh⊢;exact yS (fun c r s k=>h _ _ k) hh
   |none=>
    rw[hc]at hh
    exact Nb h hh
def Pp {K:Cl->St->Prop} (h:vD P ops o s K): ∃ c s',Step P ops c o s s'/\K c s':=by
 unfold Step;unfold vD at h⊢;cases hw:dF ops s o with
 |none=>rw[hw]at h;exact h.elim
 |some t=>
  rw[hw]at h
  dsimp only at h⊢;cases t with
  |false=>exact⟨_,_,⟨rfl,rfl⟩,h⟩
  |true=>
   simp[if_true]at h⊢;cases hc:dn o with
   |some fx=>
    rw[hc]at h
    dsimp only at h⊢;have⟨c,r,s',hk,hq⟩:=Po h;exact⟨_,_,yS (fun c' r' s2 ⟨e1,e2,e3⟩=>by subst e1;subst e2;subst e3;exact⟨rfl,rfl⟩) hq,hk⟩
   |none=>
    rw[hc]at h
    dsimp only at h⊢;rcases h with ⟨x,c,h1,h2⟩|⟨v,h1,h2⟩|⟨x,c,fp,h1,h2⟩
    ·exact⟨_,_,.inl ⟨x,c,h1,rfl,rfl⟩,h2⟩
    ·exact⟨_,_,.inr (.inl ⟨v,h1,rfl,rfl⟩),h2⟩
    ·exact⟨_,_,.inr (.inr ⟨x,c,fp,h1,rfl,rfl⟩),h2⟩
inductive Way (P:Program) (ops:Array Oper) (o:Oper) (s:St):Cl->St->Prop
 |skip (h:dF ops s o=some false):Way P ops o s .q0 (s.put o.dst (.c .tV))
 |op (x:al) (c:gA) (h:dF ops s o=some true) (hc:dn o=none) (ha:np P (gb ops o) s o=some (x,c)):Way P ops o s (jI (gb ops o) s o c) ((s.kZ c).put o.dst x)
 |R4 (v:Value) (h:dF ops s o=some true) (hc:dn o=none) (hv:yR P s o v):Way P ops o s .q0 (s.put o.dst (Bt v))
 |sop (x:al) (c:gA) (fp:List Nat) (h:dF ops s o=some true) (hc:dn o=none) (hs:sF P o s x c fp):Way P ops o s (mG s fp c) ((s.kZ c).put o.dst x)
 |pure (f:FuncId) (xs:List Operand) (r:al) (h:dF ops s o=some true) (hc:dn o=some (f,xs)) (h1:(xs.all fun x=>(s.ev x).h.ok 0)=true) (h2:Ok P f (xs.map fun x=>(s.ev x).h) [] r []):Way P ops o s .q0 (s.put o.dst r)
 |call (f:FuncId) (xs:List Operand) (bs L:List Nat) (cG:List al) (Hs Hs':List (Option (List ab))) (r:al) (h:dF ops s o=some true) (hc:dn o=some (f,xs)) (hO:Ok P f cG Hs r Hs') (h1:bs.Nodup) (h2: ∀ b∈bs,b<s.H.length)
  (h3:Hs.map (dV (sig s.H.length bs))=(bs.map fun b=>s.H.getD b none)) (h4: ∀ x∈cG,x.ok Hs.length=true) (h5:Hs.all (okB Hs.length)=true) (h6:Hs'.all (okB Hs'.length)=true)
  (h7:cG.map (al.dY (sig s.H.length bs))=(xs.map fun x=>((s.ev x).h).dP s.H L)) (h8: ∀ b∈L,b∉bs) (h9:L=[]\/(r.bare=true/\Hs'.all Cf=true)):
  Way P ops o s ⟨bs++L,[],bs,if Hs'.length=bs.length then none else some s.H.length,false,false⟩ (({ s with H:=bR s.H bs (Hs'.map (dV (sig s.H.length bs))) }:St).put o.dst (r.dY (sig s.H.length bs)))
def nc:Step P ops c o s s'↔Way P ops o s c s':=by
 constructor
 ·intro h
  unfold Step vD at h;cases hw:dF ops s o with
  |none=>rw[hw]at h;exact h.elim
  |some t=>
   rw[hw]at h
   dsimp only at h;cases t with
   |false=>obtain⟨rfl,rfl⟩:=h;exact .skip hw
   |true=>
    simp[if_true]at h;cases hc:dn o with
    |some fx=>
     rw[hc]at h
     dsimp only at h;have⟨f,xs⟩:=fx;rcases h with ⟨r,h1,h2,rfl,rfl⟩|⟨bs,L,cG,Hs,Hs',r,hO,h1,h2,h3,h4,h5,h6,h7,h8,h9,rfl,rfl⟩
     ·exact .pure f xs r hw hc h1 h2
     ·exact .call f xs bs L cG Hs Hs' r hw hc hO h1 h2 h3 h4 h5 h6 h7 h8 h9
    |none=>
     rw[hc]at h
     dsimp only at h;rcases h with ⟨x,c,h1,rfl,rfl⟩|⟨v,h1,rfl,rfl⟩|⟨x,c,fp,h1,rfl,rfl⟩
     ·exact .op x c hw hc h1
     ·exact .R4 v hw hc h1
     ·exact .sop x c fp hw hc h1
 ·intro h
  unfold Step vD;cases h with
  |skip hw=>rw[hw];exact⟨rfl,rfl⟩
  |op x c hw hc ha=>rw[hw,hc];exact .inl ⟨x,c,ha,rfl,rfl⟩
  |R4 v hw hc hv=>rw[hw,hc];exact .inr (.inl ⟨v,hv,rfl,rfl⟩)
  |sop x c fp hw hc hs=>rw[hw,hc];exact .inr (.inr ⟨x,c,fp,hs,rfl,rfl⟩)
  |pure f xs r hw hc h1 h2=>rw[hw,hc];exact .inl ⟨r,h1,h2,rfl,rfl⟩
  |call f xs bs L cG Hs Hs' r hw hc hO h1 h2 h3 h4 h5 h6 h7 h8 h9=>rw[hw,hc];exact .inr ⟨bs,L,cG,Hs,Hs',r,hO,h1,h2,h3,h4,h5,h6,h7,h8,h9,rfl,rfl⟩
def jA (h: ∀ t∈o.looksAt ops,s.ev (.tmp t)=s'.ev (.tmp t)):dF ops s o=dF ops s' o:=by
 unfold dF;cases hg:o.guard with
 |none=>rfl
 |some gw=>
  have⟨j,want⟩:=gw;dsimp only;cases hj:ops[j]? with
  |none=>rfl
  |some oj=>
   dsimp only;cases hd:oj.dst with
   |none=>rfl
   |some d=>
    dsimp only;rw[h d (by simp[Oper.looksAt,hg,hj,hd])]
def qE (h: ∀ t∈o.looksAt ops,s.ev (.tmp t)=s'.ev (.tmp t)): ∀ x∈o.op.operands,s.ev x=s'.ev x:=by
 intro x hx;cases x with
 |tmp t=>exact h t (ady _ (afe.2 ⟨.tmp t,by simpa using hx,rfl⟩))
 |_=>rfl
def Ck (hc:dn o=some (f,xs)): ∀ x∈xs,x∈o.op.operands:=by
 intro x hx;unfold dn at hc;split at hc
 next cl ho=>
  split at hc
  ·injection hc with hc;injection hc with _ e;subst e
   rw[ho];simp[aca,acL,abt.1 hx]
  ·cases hc
 ·cases hc
def J1 {tr:Bool} (h: ∀ x∈o.op.operands,s.ev x=s'.ev x):xV tr s o=xV tr s' o:=by
 unfold xV;cases ho:o.op<;>rw[ho]at h<;>try rfl
 rename_i t x;dsimp only;rw[h x (by simp[aca])]
def J0 {tr:Bool} (h: ∀ x∈o.op.operands,s.ev x=s'.ev x):ou tr s o=ou tr s' o:=by
 unfold ou;cases ho:o.op<;>rw[ho]at h<;>try rfl
 ·rename_i t x;dsimp only;rw[h x (by simp[aca])]
 ·rename_i t x y;dsimp only;rw[h x (by simp[aca])]
 next c=>
  dsimp only;split
  next x y hx=>
   have hy:y∈c.args:=by rw[← abt,hx];simp
   have BI:x∈c.args:=by rw[← abt,hx];simp
   rw[h y (by simp[aca,acL,hy]),h x (by simp[aca,acL,BI])]
  ·rfl
def ab.jx {σ τ:Nat->Nat} {n:Nat} (hσ: ∀ i,i<n->σ i=τ i) {x:ab} (h:x.ok n=true):x.dY σ=x.dY τ:=by
 cases x<;>first|rfl|(simp[ab.ok,decide_eq_true_eq]at h;simp[ab.dY,hσ _ h])
def nO {σ τ:Nat->Nat} {n:Nat} (hσ: ∀ i,i<n->σ i=τ i) {l:List ab} (h:l.all (ab.ok n)=true):l.map (ab.dY σ)=l.map (ab.dY τ):=
 aby fun x hx=>ab.jx hσ (abi.1 h x hx)
def bJ.jx {σ τ:Nat->Nat} {n:Nat} (hσ: ∀ i,i<n->σ i=τ i) {x:bJ} (h:x.ok n=true):x.dY σ=x.dY τ:=by
 cases x with
 |c x=>simp[bJ.dY,ab.jx hσ (show x.ok n=true from h)]
 |agg cs=>simp[bJ.dY,nO hσ (show cs.all (ab.ok n)=true from h)]
def al.jx {σ τ:Nat->Nat} {n:Nat} (hσ: ∀ i,i<n->σ i=τ i) {x:al} (h:x.ok n=true):x.dY σ=x.dY τ:=by
 cases x with
 |c x=>simp[al.dY,ab.jx hσ (show x.ok n=true from h)]
 |agg cs=>simp[al.dY,nO hσ (show cs.all (ab.ok n)=true from h)]
 |dt ts=>simp[al.dY,aby fun x hx=>bJ.jx hσ (abi.1 (show ts.all (bJ.ok n)=true from h) x hx)]
def AL {σ τ:Nat->Nat} {n:Nat} (hσ: ∀ i,i<n->σ i=τ i) {x:Option (List ab)} (h:okB n x=true):dV σ x=dV τ x:=by
 cases x with
 |none=>rfl
 |some cs=>simp[dV,nO hσ (show cs.all (ab.ok n)=true from h)]
def Di {bs:List Nat} (n m:Nat): ∀ i,i<bs.length->sig n bs i=sig m bs i:=fun i hi=>by
 simp[sig,GD,GE hi]
def ab.mQ {H H':List (Option (List ab))} {L:List Nat} (h: ∀ b∈L,H[b]? =H'[b]?) (x:ab):x.dP H L=x.dP H' L:=by
 cases x with
 |arr b off len cap=>
  unfold ab.dP;dsimp only;by_cases hc:b∈L/\len<=cap
  ·rw[aaP hc,aaP hc,h b hc.1]
  ·rw[aaO hc,aaO hc]
 |_=>rfl
def al.mQ {H H':List (Option (List ab))} {L:List Nat} (h: ∀ b∈L,H[b]? =H'[b]?) (x:al):x.dP H L=x.dP H' L:=by
 have hl: ∀ cs:List ab,cs.map (ab.dP H L)=cs.map (ab.dP H' L):=fun cs=>aby fun x _=>ab.mQ h x;cases x with
 |c x=>simp[al.dP,ab.mQ h x]
 |agg cs=>simp[al.dP,hl]
 |dt ts=>simp[al.dP,aby fun(x:bJ) (_:x∈ts)=>show x.dP H L=x.dP H' L by cases x<;>simp[bJ.dP,hl,ab.mQ h]]
structure FC where
 x:al
 aZ:Option Tmp:=none
 wr:List (Nat×Option (List ab)):=[]
 new:List (Option (List ab)):=[]
def gm (H:List (Option (List ab))):List (Nat×Option (List ab))->List (Option (List ab))
 |[]=>H
 |(b,c)::l=>gm (H.set b c) l
def St.h (s:St) (H:List (Option (List ab))):St:={ s with H:=H }
def FC.app (E:FC) (d:Option Tmp) (s:St):St:=((s.ir E.aZ).h (gm s.H E.wr++E.new)).put d E.x
def jU: ∀ (l:List (Nat×Option (List ab))) (H:List (Option (List ab))),(gm H l).length=H.length
 |[],H=>rfl
 |(b,c)::l,H=>by simp[gm,jU l]
def kX: ∀ (l:List (Nat×Option (List ab))) (H:List (Option (List ab))) (b:Nat),(∀ p∈l,p.1≠b)->(gm H l)[b]? =H[b]?
 |[],H,b,_=>rfl
 |(b',c)::l,H,b,h=>by
  simp[gm];rw[kX l _ b fun p hp=>h p (by simp[hp]),adA (h (b',c) (by simp))]
def rk: ∀ (l:List (Nat×Option (List ab))) (H B:List (Option (List ab))),(∀ p∈l,p.1<H.length)->gm (H++B) l=gm H l++B
 |[],H,B,_=>rfl
 |(b,c)::l,H,B,h=>by
  simp[gm];rw[ad5 _ _ (h (b,c) (by simp)),rk l _ _ fun p hp=>by rw[adT];exact h p (by simp[hp])]
def IE: ∀ (l:List (Nat×Option (List ab))) (H:List (Option (List ab))) (b:Nat) (c:Option (List ab)),(∀ p∈l,p.1≠b)->gm (H.set b c) l=(gm H l).set b c
 |[],H,b,c,_=>rfl
 |(b',c')::l,H,b,c,h=>by
  simp[gm];rw[List.set_comm _ _ (fun e=>h (b',c') (by simp) e.symm),IE l _ b c fun p hp=>h p (by simp[hp])]
def Dg: ∀ (l m:List (Nat×Option (List ab))) (H:List (Option (List ab))),(∀ p∈l,∀ q∈m,p.1≠q.1)->gm (gm H l) m=gm (gm H m) l
 |[],m,H,_=>rfl
 |(b,c)::l,m,H,h=>by
  simp[gm];rw[Dg l m _ fun p hp q hq=>h p (by simp[hp]) q hq,IE m H b c fun q hq e=>h (b,c) (by simp) q hq e.symm]
def ve: ∀ (bs:List Nat) (H Cs:List (Option (List ab))),bs.length<=Cs.length->bR H bs Cs=gm H (bs.zip Cs)++Cs.drop bs.length
 |[],H,Cs,_=>by simp[bR,gm]
 |b::bs,H,[],h=>by simp at h
 |b::bs,H,c::Cs,h=>by
  simp[bR,List.zip_cons_cons,gm,acY,afa];exact ve bs _ Cs (by simpa using h)
def PL (E:FC) (d:Option Tmp):(E.app d s).H=gm s.H E.wr++E.new:=by
 unfold FC.app;cases d<;>rfl
def PN {E:FC} {d:Option Tmp} {t:Tmp} (h1:d≠some t) (h2:E.aZ≠some t):(E.app d s).ev (.tmp t)=s.ev (.tmp t):=by
 unfold FC.app;have e1: ∀ s':St,(s'.put d E.x).ev (.tmp t)=s'.ev (.tmp t):=fun s'=>by
  cases d with
  |none=>rfl
  |some d=>exact aH _ _ (fun e=>h1 (by rw[e]))
 rw[e1];show(s.ir E.aZ).sl t=s.sl t;cases hd:E.aZ with
 |none=>rfl
 |some u=>exact aH _ _ (fun e=>h2 (by rw[hd,e]))
structure W1 (P:Program) (ops:Array Oper) (c:Cl) (o:Oper) (s s1:St) (E:FC):Prop where
 eq:s1=E.app o.dst s
 aZ: ∀ u,E.aZ=some u->c.aZ=true/\adQ u∈o.op.operands
 wr: ∀ p∈E.wr,p.1∈c.wr/\p.1<s.H.length
 wf: ∀ b∈c.wr,b∈c.fp
 new:E.new≠[]->c.new=some s.H.length
 Rc: ∀ n,c.new=some n->n=s.H.length
 soft:c.soft=true-> ∀ b,iD (gm s.H E.wr) b=iD s.H b
 all: ∀ s',(∀ t∈o.looksAt ops,s.ev (.tmp t)=s'.ev (.tmp t))->(∀ b∈c.fp,s.H[b]? =s'.H[b]?)->(∀ b∈c.fr,iD s.H b=iD s'.H b)->(c.new.isSome=true->s.H.length=s'.H.length)->Step P ops c o s' (E.app o.dst s')
def Step.eff (h:Step P ops c o s s1): ∃ E,W1 P ops c o s s1 E:=by
 rw[nc]at h
 have hz: ∀ (s:St) (d:Option Tmp) (x:al),s.put d x=(FC.mk x none [] []).app d s:=fun s d x=>by
  simp[FC.app,St.ir,gm,St.h]
 cases h with
 |skip hw=>
  refine⟨⟨.c .tV,none,[],[]⟩,hz _ _ _,fun u e=>(by cases e),fun p hp=>(by cases hp),fun b hb=>(by cases hb),fun e=>absurd rfl e,fun n e=>(by cases e),fun _ _=>rfl,fun s' hl _ _ _=> ?_⟩;rw[← hz];exact nc.2 (.skip (by rw[← jA hl];exact hw))
 |R4 v hw NM hv=>
  refine⟨⟨Bt v,none,[],[]⟩,hz _ _ _,fun u e=>(by cases e),fun p hp=>(by cases hp),fun b hb=>(by cases hb),fun e=>absurd rfl e,fun n e=>(by cases e),fun _ _=>rfl,fun s' hl _ _ _=> ?_⟩;rw[← hz];have ic:=qE hl;have⟨b,t,x,y,u,ho⟩:=hv.op;refine nc.2 (.R4 v (by rw[← jA hl];exact hw) NM ⟨hv.op,?_,fun w=> ?_⟩)
  ·rw[abi]
   intro x hx;rw[← ic x (by simpa using hx)];exact abi.1 hv.plain x hx
  ·rw[execOp_congr (ρ:=s'.env) (ρ':=s.env) o (fun cs b e=>by rw[ho]at e;cases e) (fun x hx=>by unfold St.env;rw[ic x hx])]
   exact hv.run w
 |pure f xs r hw NM h1 h2=>
  refine⟨⟨r,none,[],[]⟩,hz _ _ _,fun u e=>(by cases e),fun p hp=>(by cases hp),fun b hb=>(by cases hb),fun e=>absurd rfl e,fun n e=>(by cases e),fun _ _=>rfl,fun s' hl _ _ _=> ?_⟩;rw[← hz];have he: ∀ x∈xs,s.ev x=s'.ev x:=fun x hx=>qE hl x (Ck NM x hx);have e1:(xs.map fun x=>(s.ev x).h)=xs.map fun x=>(s'.ev x).h:=aby fun x hx=>by rw[he x hx]
  refine nc.2 (.pure f xs r (by rw[← jA hl];exact hw) NM ?_ (by rw[← e1];exact h2));rw[abi]at h1⊢
  intro x hx;rw[← he x hx];exact h1 x hx
 |op x ch hw NM ha=>
  have hE: ∀ s:St,(s.kZ ch).put o.dst x=(FC.mk x ch.aZ (match ch.eu with|some (b,cs)=>[(b,some cs)]|none=>[]) (match ch.new with|some cs=>[some cs]|none=>[])).app o.dst s:=fun s=>by
   unfold FC.app St.kZ;have⟨d,b,n⟩:=ch;cases d<;>cases b<;>cases n<;>simp[St.ir,St.qy,St.qW,St.h,gm,fN,St.aZ]
  refine⟨_,hE s,fun u e=>⟨?_,TQ ha e⟩,fun p hp=> ?_,fun b hb=> ?_,fun e=> ?_,fun n e=> ?_,fun Tp b=> ?_,fun s' hl hf iy hn=> ?_⟩
  ·have e:ch.aZ=some u:=e
   simp[jI,e]
  ·cases hb:ch.eu with
   |none=>simp[hb]at hp
   |some bc=>
    have⟨b,cs⟩:=bc;simp only[hb,acG]at hp;subst hp;exact⟨by simp[jI,gA.wr,hb],(DZ ha hb).2.1⟩
  ·cases hbb:ch.eu with
   |none=>simp[jI,gA.wr,hbb]at hb
   |some bc=>
    have⟨b',cs⟩:=bc;simp only[jI,gA.wr,hbb,acG]at hb;subst hb;exact(DZ ha hbb).1
  ·cases hn:ch.new with
   |none=>simp[hn]at e
   |some cs=>simp[jI,hn]
  ·cases hn:ch.new with
   |none=>simp[jI,hn]at e
   |some cs=>simp[jI,hn]at e;exact e.symm
  ·have Tp:wj o.op=true:=Tp
   cases hb:ch.eu with
   |none=>rfl
   |some bc=>
    have⟨b',cs⟩:=bc;have⟨_,k2,_,k4⟩:=DZ ha hb;show iD (s.H.set b' (some cs)) b=iD s.H b;by_cases e:b'=b
    ·subst e;exact k4 Tp
    ·unfold iD;rw[adA e]
  ·rw[← hE]
   have ic:=qE hl;have ha':np P (gb ops o) s' o=some (x,ch):=by
    rw[← TR ic hf iy (fun hm=>hn (by simp only[jI];rw[TS ha hm];rfl))];exact ha
   have:=Way.op (P:=P) (ops:=ops) (o:=o) (s:=s') x ch (by rw[← jA hl];exact hw) NM ha';have e1:jI (gb ops o) s' o ch=jI (gb ops o) s o ch:=by
    unfold jI;rw[J0 ic,J1 ic];cases hc:ch.new with
    |none=>rfl
    |some cs=>simp only[ad8,if_true];rw[hn (by simp[jI,hc])]
   rw[e1]at this
   exact nc.2 this
 |sop x ch fp hw NM hs=>
  have hE: ∀ s:St,(s.kZ ch).put o.dst x=(FC.mk x ch.aZ (match ch.eu with|some (b,cs)=>[(b,some cs)]|none=>[]) (match ch.new with|some cs=>[some cs]|none=>[])).app o.dst s:=fun s=>by
   unfold FC.app St.kZ;have⟨d,b,n⟩:=ch;cases d<;>cases b<;>cases n<;>simp[St.ir,St.qy,St.qW,St.h,gm,fN,St.aZ]
  refine⟨_,hE s,fun u e=> ?_,fun p hp=> ?_,fun b hb=> ?_,fun e=> ?_,fun n e=> ?_,fun Tp=>(by cases Tp),fun s' hl hf _ hn=> ?_⟩
  ·have e:ch.aZ=some u:=e
   rw[hs.aZ]at e
   cases e
  ·cases hb:ch.eu with
   |none=>simp[hb]at hp
   |some bc=>
    have⟨b,cs⟩:=bc;simp only[hb,acG]at hp;subst hp;exact⟨by simp[mG,gA.wr,hb],(hs.eu _ _ hb).2⟩
  ·cases hbb:ch.eu with
   |none=>simp[mG,gA.wr,hbb]at hb
   |some bc=>
    have⟨b',cs⟩:=bc;simp only[mG,gA.wr,hbb,acG]at hb;subst hb;exact(hs.eu _ _ hbb).1
  ·cases hn:ch.new with
   |none=>simp[hn]at e
   |some cs=>simp[mG,hn]
  ·cases hn:ch.new with
   |none=>simp[mG,hn]at e
   |some cs=>simp[mG,hn]at e;exact e.symm
  ·rw[← hE]
   have ic:=qE hl;have hn':ch.new.isSome=true->s.H.length=s'.H.length:=fun e=>hn (by simp[mG,e]);have:=Way.sop (P:=P) (ops:=ops) (o:=o) (s:=s') x ch fp (by rw[← jA hl];exact hw) NM (hs.congr ic hf hn');have e1:mG s' fp ch=mG s fp ch:=by
    unfold mG;cases hc:ch.new with
    |none=>rfl
    |some cs=>simp only[ad8,if_true];rw[hn' (by rw[hc];rfl)]
   rw[e1]at this
   exact nc.2 this
 |call f xs bs L cG Hs Hs' r hw NM hO h1 h2 h3 h4 h5 h6 h7 h8 h9=>
  have hlen:Hs.length=bs.length:=by simpa using congrArg ac0 h3
  have hle:bs.length<=Hs'.length:=by have:=hO.len;omega
  have hE: ∀ s:St,(({ s with H:=bR s.H bs (Hs'.map (dV (sig s.H.length bs))) }:St).put o.dst (r.dY (sig s.H.length bs)))=(FC.mk (r.dY (sig s.H.length bs)) none (bs.zip (Hs'.map (dV (sig s.H.length bs)))) ((Hs'.map (dV (sig s.H.length bs))).drop bs.length)).app o.dst s:=fun s=>by
   simp only[FC.app,St.ir,St.h];rw[ve _ _ _ (by simpa using hle)]
  refine⟨_,hE s,fun u e=>(by cases e),fun p hp=> ?_,fun b hb=>ady _ hb,fun e=> ?_,fun n e=> ?_,fun Tp=>(by cases Tp),fun s' hl hf _ hn=> ?_⟩
  ·have:=(List.of_mem_zip hp).1
   exact⟨this,h2 _ this⟩
  ·show(if Hs'.length=bs.length then none else some s.H.length)=_
   rw[aaO];intro e2;exact e (List.drop_eq_nil_of_le (by simp[e2]))
  ·have e:(if Hs'.length=bs.length then none else some s.H.length)=some n:=e
   split at e
   ·cases e
   ·injection e with e;exact e.symm
  ·have he: ∀ x∈xs,s.ev x=s'.ev x:=fun x hx=>qE hl x (Ck NM x hx)
   have hfb: ∀ b∈bs,s.H[b]? =s'.H[b]? :=fun b hb=>hf b (ady _ hb);have hfL: ∀ b∈L,s.H[b]? =s'.H[b]? :=fun b hb=>hf b (List.mem_append_right _ hb);have hn':Hs'.length=bs.length\/s.H.length=s'.H.length:=by
    by_cases e:Hs'.length=bs.length
    ·exact .inl e
    ·exact .inr (hn (by show(if Hs'.length=bs.length then none else some s.H.length).isSome=true;rw[aaO e];rfl))
   have hs0: ∀ i,i<Hs.length->sig s.H.length bs i=sig s'.H.length bs i:=fun i hi=>Di _ _ i (by omega);have Kc: ∀ i,i<Hs'.length->sig s.H.length bs i=sig s'.H.length bs i:=fun i hi=>by
    rcases hn' with e|e
    ·exact Di _ _ i (by omega)
    ·rw[e]
   have q1:Hs.map (dV (sig s.H.length bs))=Hs.map (dV (sig s'.H.length bs)):=aby fun x hx=>AL hs0 (abi.1 h5 x hx);have q2:Hs'.map (dV (sig s.H.length bs))=Hs'.map (dV (sig s'.H.length bs)):=aby fun x hx=>AL Kc (abi.1 h6 x hx);have q3:cG.map (al.dY (sig s.H.length bs))=cG.map (al.dY (sig s'.H.length bs)):=aby fun x hx=>al.jx hs0 (h4 x hx);have q4:r.dY (sig s.H.length bs)=r.dY (sig s'.H.length bs):=al.jx Kc hO.ZM;have q5:(bs.map fun b=>s.H.getD b none)=bs.map fun b=>s'.H.getD b none:=aby fun b hb=>by rw[GD,GD,hfb b hb]
   have q6:(xs.map fun x=>((s.ev x).h).dP s.H L)=xs.map fun x=>((s'.ev x).h).dP s'.H L:=aby fun x hx=>by rw[he x hx,al.mQ hfL]
   have:=Way.call (P:=P) (ops:=ops) (o:=o) (s:=s') f xs bs L cG Hs Hs' r (by rw[← jA hl];exact hw) NM hO h1 (fun b hb=>by
    have e1:=GE (h2 b hb);rw[hfb b hb]at e1
    exact(abq.1 e1).1) (by rw[← q1,← q5];exact h3) h4 h5 h6 (by rw[← q3,← q6];exact h7) h8 h9
   rw[hE s',← q2,← q4]at this
   have e2:(if Hs'.length=bs.length then none else some s'.H.length)=(if Hs'.length=bs.length then none else some s.H.length):=by
    rcases hn' with e|e
    ·rw[aaP e,aaP e]
    ·rw[e]
   rw[e2]at this
   exact nc.2 this
def Bd (f:Nat->α) {i:Nat} (x y:α) (h:i≠j):fq (fq f i x) j y=fq (fq f j y) i x:=by
 funext k;by_cases e1:k=i
 ·subst e1;rw[aH _ _ h,aQ,aQ]
 ·by_cases e2:k=j
  ·subst e2;rw[aQ,aH _ _ e1,aQ]
  ·rw[aH _ _ e2,aH _ _ e1,aH _ _ e1,aH _ _ e2]
def abU (d:Option Tmp) (x:al):(s.put d x).H=s.H:=by cases d<;>rfl
def put_comm {d e:Option Tmp} (x y:al) (h: ∀ t,d=some t->e≠some t):(s.put d x).put e y=(s.put e y).put d x:=by
 cases d with
 |none=>rfl
 |some d=>
  cases e with
  |none=>rfl
  |some e=>
   have:d≠e:=fun he=>h d rfl (by rw[he]);simp[St.put,Bd _ _ _ this]
def T8 {u:Option Tmp} {d:Option Tmp} {x:al} (h: ∀ t,u=some t->d≠some t):(s.put d x).ir u=(s.ir u).put d x:=by
 cases u with
 |none=>rfl
 |some u=>
  cases d with
  |none=>rfl
  |some d=>
   have hne:d≠u:=fun e=>h u rfl (by rw[e]);simp[St.ir,St.aZ,St.put];rw[aH _ _ (fun e=>hne e.symm),Bd _ _ _ hne]
def Eg {u v:Option Tmp}:(s.ir u).ir v=(s.ir v).ir u:=by
 cases u with
 |none=>rfl
 |some u=>
  cases v with
  |none=>rfl
  |some v=>
   simp[St.ir,St.aZ];by_cases e:u=v
   ·subst e;rfl
   ·rw[aH _ _ (fun h=>e h.symm),aH _ _ e,Bd _ _ _ e]
def aaq {u:Option Tmp} {H:List (Option (List ab))}:(s.h H).ir u=(s.ir u).h H:=by cases u<;>rfl
def RA {d:Option Tmp} {x:al} {H:List (Option (List ab))}:(s.h H).put d x=(s.put d x).h H:=by cases d<;>rfl
def h_h {H H':List (Option (List ab))}:(s.h H).h H'=s.h H':=rfl
def PM {E F:FC} {d e:Option Tmp} (h1: ∀ t,d=some t->e≠some t) (h2: ∀ t,E.aZ=some t->e≠some t) (h3: ∀ t,F.aZ=some t->d≠some t)
  (hH:gm (gm s.H E.wr++E.new) F.wr++F.new=gm (gm s.H F.wr++F.new) E.wr++E.new):F.app e (E.app d s)=E.app d (F.app e s):=by
 have key: ∀ (A B:FC) (x y:Option Tmp),(∀ t,B.aZ=some t->x≠some t)->B.app y (A.app x s)=(((((s.ir A.aZ).ir B.aZ).put x A.x).put y B.x).h (gm (gm s.H A.wr++A.new) B.wr++B.new)):=by
  intro A B x y hx;have e1:(A.app x s).H=gm s.H A.wr++A.new:=PL A x;unfold FC.app at e1⊢;rw[e1,T8 hx,aaq,RA,RA,RA,h_h]
 rw[key E F d e h3,key F E e d h2,hH,Eg,put_comm _ _ h1]
end
section
variable {P:Program} {ops:Array Oper} {s s' s1 s2:St} {o:Oper} {c:Cl}
def EP (ops:Array Oper) (x y:Oper):Bool:=(x.op.operands.toList.all fun a=>match a with| .tmp t=> !(y.looksAt ops).contains t|_=>true)
def below:Option Nat->List Nat->Bool
 |some n,l=>l.all fun b=>decide (b<n)
 |none,_=>true
def tM (l m:List Nat):Bool:=l.all fun b=> !m.contains b
def ll (ops:Array Oper) (ci cj:Cl) (oi oj:Oper):Bool:=
 oi.apart ops oj&&tM ci.wr cj.fp&&tM cj.wr ci.fp&& !(ci.new.isSome&&cj.new.isSome)&&below ci.new cj.fp&&below cj.new ci.fp&&(!ci.aZ||EP ops oi oj)&&(!cj.aZ||EP ops oj oi)&&(ci.soft||tM ci.wr cj.fr)&&(cj.soft||tM cj.wr ci.fr)&&below ci.new cj.fr&&below cj.new ci.fr
def Aq {x y:Oper} (h:EP ops x y=true) {t:Tmp} (ht:t∈y.looksAt ops):adQ t∉x.op.operands:=fun hm=>by
 have:=abi.1 h (.tmp t) (by simpa using hm);simp[ht]at this
def oB {l m:List Nat} (h:tM l m=true) {b:Nat} (h1:b∈l):b∉m:=fun h2=>by
 have:=abi.1 h b h1;simp[h2]at this
def Dh: ∀ (l:List (Nat×Option (List ab))) (A B:List (Option (List ab))) (b:Nat),A[b]? =B[b]? ->b<A.length->b<B.length->(gm A l)[b]? =(gm B l)[b]?
 |[],A,B,b,h,_,_=>h
 |(c,x)::l,A,B,b,h,ha,hb=>by
  simp[gm];refine Dh l _ _ b ?_ (by simpa using ha) (by simpa using hb);by_cases e:c=b
  ·subst e;rw[adL ha,adL hb]
  ·rw[adA e,adA e];exact h
def swap {ci cj:Cl} {oi oj:Oper} (hc:ll ops ci cj oi oj=true) (h1:Step P ops ci oi s s1) (h2:Step P ops cj oj s1 s2): ∃ s',Step P ops cj oj s s'/\Step P ops ci oi s' s2:=by
 simp only[ll,ada,adE,Bool.not_eq_true']at hc;have⟨⟨⟨⟨⟨⟨⟨⟨⟨⟨⟨hap,hm1⟩,hm2⟩,vG⟩,hb1⟩,hb2⟩,Zs⟩,Wp⟩,Kc⟩,CD⟩,hb3⟩,hb4⟩:=hc;have⟨a1,a2,a3⟩:=Oper.apart_spec hap;have⟨E,hE⟩:=h1.eff;have⟨F,hF⟩:=h2.eff;have hEd: ∀ t∈oj.looksAt ops,E.aZ≠some t:=fun t ht e=>by
  have⟨k1,k2⟩:=hE.aZ t e;rcases Zs with hd|hd
  ·rw[hd]at k1;cases k1
  ·exact Aq hd ht k2
 have hFd: ∀ t∈oi.looksAt ops,F.aZ≠some t:=fun t ht e=>by
  have⟨k1,k2⟩:=hF.aZ t e;rcases Wp with hd|hd
  ·rw[hd]at k1;cases k1
  ·exact Aq hd ht k2
 have e1:=hE.eq;have H1:s1.H=gm s.H E.wr++E.new:=by rw[e1,PL]
 have nE:ci.new=none->E.new=[]:=fun e=>by
  by_cases hn:E.new=[]
  ·exact hn
  ·rw[hE.new hn]at e;cases e
 have nF:cj.new=none->F.new=[]:=fun e=>by
  by_cases hn:F.new=[]
  ·exact hn
  ·rw[hF.new hn]at e;cases e
 have one:E.new=[]\/F.new=[]:=by
  cases hi:ci.new with
  |none=>exact .inl (nE hi)
  |some n=>
   cases hj:cj.new with
   |none=>exact .inr (nF hj)
   |some m=>rw[hi,hj]at vG;cases vG
 have len1:ci.new=none->s1.H.length=s.H.length:=fun e=>by rw[H1,nE e,acQ,jU]
 
 have fj: ∀ b∈cj.fp,s1.H[b]? =s.H[b]? :=fun b hb=>by
  rw[H1];have hk: ∀ p∈E.wr,p.1≠b:=fun p hp e=>oB hm1 (hE.wr p hp).1 (by rw[e];exact hb);cases hi:ci.new with
  |none=>rw[nE hi,acQ,kX _ _ _ hk]
  |some n=>
   rw[hi]at hb1
   have hlt:b<n:=by simpa using abi.1 hb1 b hb
   rw[hE.Rc n hi]at hlt
   rw[abr (by rw[jU];exact hlt),kX _ _ _ hk]
 have soft1: ∀ b∈cj.fr,iD (gm s.H E.wr) b=iD s.H b:=fun b hb=>by
  rcases Kc with hs|hs
  ·exact hE.soft hs b
  ·unfold iD;rw[kX _ _ _ (fun p hp e=>oB hs (hE.wr p hp).1 (by rw[e];exact hb))]
 have fjr: ∀ b∈cj.fr,iD s1.H b=iD s.H b:=fun b hb=>by
  rw[H1];cases hi:ci.new with
  |none=>rw[nE hi,acQ];exact soft1 b hb
  |some n=>
   rw[hi]at hb3
   have hlt:b<n:=by simpa using abi.1 hb3 b hb
   rw[hE.Rc n hi]at hlt
   rw[← soft1 b hb];unfold iD;rw[abr (by rw[jU];exact hlt)]
 have sj:=hF.all s (fun t ht=>by rw[e1];exact PN (fun e=>a1 t e ht) (hEd t ht)) fj fjr (fun hn=>by
  apply len1;cases hi:ci.new with
  |none=>rfl
  |some n=>rw[hi,hn]at vG;cases vG)
 refine⟨_,sj,?_⟩;have H2:(F.app oj.dst s).H=gm s.H F.wr++F.new:=PL F _;have fi: ∀ b∈ci.fp,s.H[b]? =(F.app oj.dst s).H[b]? :=fun b hb=>by
  rw[H2];have hk: ∀ p∈F.wr,p.1≠b:=fun p hp e=>oB hm2 (hF.wr p hp).1 (by rw[e];exact hb);cases hj:cj.new with
  |none=>rw[nF hj,acQ,kX _ _ _ hk]
  |some n=>
   have hi:ci.new=none:=by
    cases hi:ci.new with
    |none=>rfl
    |some m=>rw[hi,hj]at vG;cases vG
   rw[hj]at hb2
   have hlt:b<n:=by simpa using abi.1 hb2 b hb
   rw[hF.Rc n hj,len1 hi]at hlt
   rw[abr (by rw[jU];exact hlt),kX _ _ _ hk]
 have soft2: ∀ b∈ci.fr,iD (gm s.H F.wr) b=iD s.H b:=fun b hb=>by
  rcases CD with hs|hs
  ·have k:=hF.soft hs
   
   by_cases hbw: ∃ p∈F.wr,p.1=b
   ·obtain⟨p,hp,rfl⟩:=hbw
    have q1:iD (gm s1.H F.wr) p.1=iD (gm s.H F.wr) p.1:=by
     unfold iD;have hlt1:p.1<s1.H.length:=(hF.wr p hp).2;have X1:=hF.wf _ (hF.wr p hp).1;have e3:=fj p.1 X1;have hlt:p.1<s.H.length:=by
      rcases acC p.1 s.H.length with h|h
      ·exact h
      ·rw[abw h,GE hlt1]at e3;cases e3
     rw[Dh F.wr s1.H s.H p.1 e3 hlt1 hlt]
    rw[← q1,k p.1];unfold iD;rw[fj p.1 (hF.wf _ (hF.wr p hp).1)]
   ·unfold iD;rw[kX _ _ _ (fun p hp e=>hbw ⟨p,hp,e⟩)]
  ·unfold iD;rw[kX _ _ _ (fun p hp e=>oB hs (hF.wr p hp).1 (by rw[e];exact hb))]
 have fir: ∀ b∈ci.fr,iD s.H b=iD (F.app oj.dst s).H b:=fun b hb=>by
  rw[H2];cases hj:cj.new with
  |none=>rw[nF hj,acQ];exact(soft2 b hb).symm
  |some n=>
   have hi:ci.new=none:=by
    cases hi:ci.new with
    |none=>rfl
    |some m=>rw[hi,hj]at vG;cases vG
   rw[hj]at hb4
   have hlt:b<n:=by simpa using abi.1 hb4 b hb
   rw[hF.Rc n hj,len1 hi]at hlt
   rw[← soft2 b hb];unfold iD;rw[abr (by rw[jU];exact hlt)]
 have si:=hE.all (F.app oj.dst s) (fun t ht=>(PN (fun e=>a3 t e ht) (hFd t ht)).symm) fi fir (fun hn=>by
  have hj:cj.new=none:=by
   cases hj:cj.new with
   |none=>rfl
   |some m=>rw[hj,hn]at vG;cases vG
  rw[H2,nF hj,acQ,jU])
 have mem: ∀ {o:Oper} {t:Tmp},adQ t∈o.op.operands->t∈o.looksAt ops:=fun{o t} hm=>ady _ (afe.2 ⟨.tmp t,by simpa using hm,rfl⟩);have hcm:F.app oj.dst (E.app oi.dst s)=E.app oi.dst (F.app oj.dst s):=by
  refine PM (fun t e=>a2 t e) (fun t e e2=>a3 t e2 (mem (hE.aZ t e).2)) (fun t e e2=>a1 t e2 (mem (hF.aZ t e).2)) ?_;have kE: ∀ p∈E.wr,p.1<s.H.length:=fun p hp=>(hE.wr p hp).2;have kF: ∀ p∈F.wr,p.1<s.H.length:=fun p hp=>by
   cases hi:ci.new with
   |none=>rw[← len1 hi];exact(hF.wr p hp).2
   |some n=>
    rw[hi]at hb1
    have hlt:p.1<n:=by simpa using abi.1 hb1 p.1 (hF.wf _ (hF.wr p hp).1)
    rw[hE.Rc n hi]at hlt
    exact hlt
  rw[rk _ _ _ (by rw[jU];exact kF),rk _ _ _ (by rw[jU];exact kE),Dg E.wr F.wr s.H (fun p hp q hq e=>oB hm1 (hE.wr p hp).1 (by rw[e];exact hF.wf _ (hF.wr q hq).1))];rcases one with e|e<;>simp[e]
 have e2:=hF.eq;rw[e1]at e2
 rw[e2,hcm];exact si
def Jo (P:Program) (ops:Array Oper):List (Nat×Cl)->St->St->Prop
 |[],s,s'=>s=s'
 |(i,c)::rest,s,s'=> ∃ o s1,ops[i]? =some o/\Step P ops c o s s1/\Jo P ops rest s1 s'
def zg: ∀ (pre:List (Nat×Cl)) (j:Nat) (cj:Cl) (post:List (Nat×Cl)) (s s':St) (oj:Oper),ops[j]? =some oj->(∀ p∈pre,∀ oi,ops[p.1]? =some oi->ll ops p.2 cj oi oj=true)->Jo P ops (pre++(j,cj)::post) s s'->
  ∃ s1,Step P ops cj oj s s1/\Jo P ops (pre++post) s1 s'
 |[],j,cj,post,s,s',oj,hj,_,h=>by
  have⟨o,s1,ho,h1,h2⟩:=h;rw[hj]at ho;cases ho
  exact⟨s1,h1,h2⟩
 |(i,ci)::pre,j,cj,post,s,s',oj,hj,hc,h=>by
  have⟨o,s1,ho,h1,h2⟩:=h;have⟨t,h3,h4⟩:=zg pre j cj post s1 s' oj hj (fun p hp=>hc p (ab2 _ hp)) h2;have⟨t',h5,h6⟩:=swap (hc (i,ci) (by simp) o ho) h1 h3;exact⟨t',h5,o,t,ho,h6,h4⟩
def mask (acc:List Nat) (o:Oper):Nat:=o.after.toList.foldl (fun m e=>if ab5 .any e then m|||(2^e.on|||acc.getD e.on 0)else m) 0
def zd:List Oper->List Nat->List Nat
 |[],acc=>acc
 |o::rest,acc=>zd rest (acc++[mask acc o])
def Q5 {acc:List Nat} {o:Oper} {k:Nat} (h:(mask acc o).testBit k=true): ∃ e∈o.after,ab5 .any e=true/\(k=e.on\/(acc.getD e.on 0).testBit k=true):=by
 have key: ∀ (l:List Edge) (m:Nat),(l.foldl (fun m e=>if ab5 .any e then m|||(2^e.on|||acc.getD e.on 0)else m) m).testBit k=true->m.testBit k=true\/ ∃ e∈l,ab5 .any e=true/\(k=e.on\/(acc.getD e.on 0).testBit k=true):=by
  intro l
  induction l with
  |nil=>intro m h;exact .inl h
  |cons e l ih=>
   intro m h;rw[List.foldl_cons]at h
   rcases ih _ h with h1|⟨e',he',h2⟩
   ·by_cases hb:ab5 .any e=true
    ·rw[aaP hb]at h1
     rw[afA,afA,adE,adE]at h1
     rcases h1 with h1|h1|h1
     ·exact .inl h1
     ·rw[Nat.testBit_two_pow]at h1
      exact .inr ⟨e,by simp,hb,.inl (by simpa using(of_decide_eq_true h1).symm)⟩
     ·exact .inr ⟨e,by simp,hb,.inr h1⟩
    ·rw[aaO hb]at h1
     exact .inl h1
   ·exact .inr ⟨e',by simp[he'],h2⟩
 rcases key _ 0 h with h1|⟨e,he,h2⟩
 ·simp at h1
 ·exact⟨e,abt.1 he,h2⟩
def Gh: ∀ (l:List Oper) (acc:List Nat) (j:Nat),(j<acc.length->(zd l acc)[j]? =acc[j]?)/\(∀ o,l[j-acc.length]? =some o->acc.length<=j-> ∃ TM,(zd l acc)[j]? =some (mask TM o)/\TM.length=j/\ ∀ i,i<j->(zd l acc)[i]? =TM[i]?)
 |[],acc,j=>⟨fun _=>rfl,fun o h=>by simp at h⟩
 |p::rest,acc,j=>by
  have ih:=fun j=>Gh rest (acc++[mask acc p]) j;refine⟨fun hj=> ?_,fun o h hj=> ?_⟩
  ·simp[zd]
   rw[(ih j).1 (by simp;omega),abr hj]
  ·simp[zd]
   rcases Nat.eq_or_lt_of_le hj with e|hlt
   ·rw[show j-acc.length=0 by omega]at h
    have hp:p=o:=by simpa using h
    subst hp;refine⟨acc,?_,e,fun i hi=> ?_⟩
    ·rw[(ih j).1 (by simp;omega),← e];simp
    ·rw[(ih i).1 (by simp;omega),abr (by omega)]
   ·have h':rest[j-(acc++[mask acc p]).length]? =some o:=by
     rw[show j-acc.length=(j-(acc.length+1))+1 by omega,ae2]at h
     simpa using h
    exact(ih j).2 o h' (by simp;omega)
def zf {l:List Oper} {listed:Nat->Bool} (hcl: ∀ j o,l[j]? =some o->listed j=true-> ∀ e∈o.after,ab5 .any e=true->listed e.on=true):
  ∀ (j:Nat) (o:Oper),l[j]? =some o->(∀ e∈o.after,ab5 .any e=true->listed e.on=true)-> ∀ k,((zd l []).getD j 0).testBit k=true->listed k=true:=by
 intro j
 induction j using Nat.strongRecOn with
 |_ j ih=>
  intro o ho he k hk;obtain⟨TM,h1,h2,h3⟩:=(Gh l [] j).2 o (by simpa using ho) (by simp);rw[GD,h1]at hk
  obtain⟨e,hm,hb,hh⟩:=Q5 (by simpa using hk);rcases hh with rfl|hh
  ·exact he e hm hb
  ·have hon:listed e.on=true:=he e hm hb
   rcases acC e.on j with hlt|hge
   ·have hl:e.on<l.length:=by
     have:=(abq.1 ho).1;omega
    have:=h3 e.on hlt;refine ih e.on hlt l[e.on] (GE hl) (fun e' he' hb'=>hcl e.on _ (GE hl) hon e' he' hb') k ?_;rw[GD,this,← GD];exact hh
   ·rw[GD,abw (by omega)]at hh
    simp at hh
def sL (ops:Array Oper) (cl:List Cl):Bool:=
 decide (cl.length=ops.size)&&(acD ops.size).all fun j=>((ops.toList.getD j default).after.toList.all fun e=> !ab5 .any e||decide (e.on<j))&&
  (acD j).all fun i=>((zd ops.toList []).getD j 0).testBit i||ll ops (cl.getD i .q0) (cl.getD j .q0) (ops.toList.getD i default) (ops.toList.getD j default)
def qp (P:Program) (ops:Array Oper):List Oper->St->List Cl->(St->Prop)->Prop
 |[],s,acc,K=>sL ops acc.reverse=true/\K s
 |o::rest,s,acc,K=>vD P ops o s fun c s'=>qp P ops rest s' (c::acc) K
def DR1 (P:Program) (ops:Array Oper) (s:St) (K:St->Prop):Prop:=qp P ops ops.toList s [] K
def B8 {K:St->Prop}: ∀ (l:List Oper) (k:Nat) (s:St) (acc:List Cl),(∀ j,l[j]? =ops[k+j]?)->acc.length=k->qp P ops l s acc K-> ∃ (cl:List Cl) (s':St),cl.length=k+l.length/\cl.take k=acc.reverse/\sL ops cl=true/\K s'/\Jo P ops ((List.range' k l.length).map fun i=>(i,cl.getD i .q0)) s s'
 |[],k,s,acc,_,hk,h=>⟨acc.reverse,s,by simpa using hk,by rw[acO (by simp[hk])],h.1,h.2,rfl⟩
 |o::rest,k,s,acc,hl,hk,h=>by
  have⟨c,s1,h1,h2⟩:=Pp h;have⟨cl,s',e1,e2,e3,e4,e5⟩:=B8 rest (k+1) s1 (c::acc) (fun j=>by rw[show k+1+j=k+(j+1)by omega,← hl];simp) (by simp[hk]) h2;have hc:cl.getD k .q0=c:=by
   have:(cl.take (k+1))[k]? =some c:=by rw[e2];simp[hk]
   rw[List.getElem?_take_of_lt (by omega)]at this
   rw[GD,this];rfl
  refine⟨cl,s',by simp[e1];omega,?_,e3,e4,?_⟩
  ·have:(cl.take (k+1)).take k=acc.reverse:=by rw[e2,List.reverse_cons,adB (by simp[hk]),acO (by simp[hk])]
   rwa [afs,aft (by omega)]at this
  ·simp only[acY,List.range'_succ,abh]
   refine⟨o,s1,by simpa using(hl 0).symm,by rw[hc];exact h1,e5⟩
def min_mem: ∀ (l:List (Nat×Cl)),l≠[]-> ∃ p∈l,∀ q∈l,p.1<=q.1
 |[],h=>absurd rfl h
 |[p],_=>⟨p,by simp,fun q hq=>by rw[acG.1 hq];exact acE _⟩
 |p::q::l,_=>by
  have⟨m,h1,h2⟩:=min_mem (q::l) (by simp);rcases Nat.le_total p.1 m.1 with h|h
  ·exact⟨p,by simp,fun x hx=>by
    rcases acB.1 hx with rfl|hx
    ·exact acE _
    ·exact afE h (h2 x hx)⟩
  ·exact⟨m,ab2 _ h1,fun x hx=>by
    rcases acB.1 hx with rfl|hx
    ·exact h
    ·exact h2 x hx⟩
def rel (ops:Array Oper) (p q:Nat×Cl):Bool:=((zd ops.toList []).getD q.1 0).testBit p.1||ll ops p.2 q.2 (ops.toList.getD p.1 default) (ops.toList.getD q.1 default)
def tq (ops:Array Oper):Bool:=(acD ops.size).all fun j=>(ops.toList.getD j default).after.toList.all fun e=> !ab5 .any e||decide (e.on<j)
def EA {oj:Oper} (hj:ops[j]? =some oj):ops.toList.getD j default=oj:=by simp[GD,hj]
def Qe (h:tq ops=true) {o:Oper} (ho:ops[j]? =some o): ∀ e∈o.after,ab5 .any e=true->e.on<j:=fun e he hb=>by
 have:=abi.1 (abi.1 h j (acS.2 (acF.1 ho).1)) e (by rw[EA ho];exact abt.2 he);rw[hb]at this
 simpa using this
structure FN (ops:Array Oper) (R:List Nat) (listed:Array Bool):Prop where
 nodup:R.Nodup
 mem: ∀ i,i∈R↔i<ops.size/\listed.getD i true=false
 size:listed.size=ops.size
 cls: ∀ j o,ops.toList[j]? =some o->listed.getD j false=true-> ∀ e∈o.after,ab5 .any e=true->listed.getD e.on false=true
def FN.out {R:List Nat} (h:FN ops R listed) {i:Nat} (hi:i<ops.size) (hn:i∉R):listed.getD i false=true:=by
 have h2:i<listed.size:=by rw[h.size];exact hi
 cases hx:listed.getD i true with
 |false=>exact absurd ((h.mem i).2 ⟨hi,hx⟩) hn
 |true=>simp[adF,h2]at hx⊢;exact hx
def FN.ready {R:List Nat} {listed:Array Bool} (h:FN ops R listed) (he:tq ops=true) (hne:R≠[]):afu .any ops listed≠[]:=by
 intro Ka;have⟨p,hp,aba⟩:=min_mem (R.map fun i=>(i,Cl.q0)) (by simpa using hne);obtain⟨i,hi,rfl⟩:=ac2.1 hp;have⟨hi1,hi2⟩:=(h.mem i).1 hi
 have:i∈afu .any ops listed:=mem_ready.2 ⟨hi2,ops[i],aeC hi1,fun e hem hb=>by
  have h4:=Qe he (aeC hi1) e hem hb;refine h.out (by omega) (fun hm=> ?_);have:=aba (e.on,Cl.q0) (ac2.2 ⟨_,hm,rfl⟩);simp only at this
  omega⟩
 rw[Ka]at this;cases this
def FN.next {A B:List Nat} {i:Nat} {o:Oper} (h:FN ops (A++i::B) listed) (ho:ops[i]? =some o) (hr: ∀ e∈o.after,ab5 .any e=true->listed.getD e.on false=true):FN ops (A++B) (listed.setIfInBounds i true):=by
 have hi1:i<ops.size:=(acF.1 ho).1;have hnd:=h.nodup;rw[afk]at hnd
 have⟨n1,n2,n3⟩:=hnd;have⟨n4,n5⟩:=List.nodup_cons.1 n2;have ad4:i∉A++B:=fun hm=>by
  rcases adV.1 hm with hm|hm
  ·exact n3 i hm i (by simp) rfl
  ·exact n4 hm
 refine⟨afk.2 ⟨n1,n5,fun a ha b hb=>n3 a ha b (ab2 _ hb)⟩,fun j=> ?_,by simpa using h.size,fun j o' ho' hj e he hb=> ?_⟩
 ·by_cases e:i=j
  ·subst e
   constructor
   ·intro hm;exact absurd hm ad4
   ·rintro⟨_,hf⟩
    have:i<listed.size:=by rw[h.size];exact hi1
    simp[adF,this]at hf
  ·rw[getD_set_ne true e,← h.mem j]
   constructor
   ·intro hm;simp at hm⊢;rcases hm with h|h<;>simp[h]
   ·intro hm;simp at hm⊢;rcases hm with h|h|h
    ·exact .inl h
    ·exact absurd h.symm e
    ·exact .inr h
 ·by_cases e2:i=j
  ·subst e2
   have:o'=o:=by rw[Array.getElem?_toList,ho]at ho';injection ho' with h;exact h.symm
   subst this;exact getD_set_true (hr e he hb)
  ·rw[getD_set_ne false e2]at hj
   exact getD_set_true (h.cls j o' ho' hj e he hb)
def ahead {pre:List (Nat×Cl)} {i:Nat} {ci:Cl} {o:Oper} {R:List Nat} (h:FN ops R listed) (ho:ops[i]? =some o) (hr: ∀ e∈o.after,ab5 .any e=true->listed.getD e.on false=true) (hm: ∀ p∈pre,p.1∈R) (hp: ∀ p∈pre,rel ops p (i,ci)=true):
  ∀ p∈pre,∀ oi,ops[p.1]? =some oi->ll ops p.2 ci oi o=true:=fun p Bq oi hoi=>by
 have Wo:=hp p Bq;unfold rel at Wo;rw[adE]at Wo
 rcases Wo with Wo|Wo
 ·exfalso
  have nW:=zf (l:=ops.toList) (listed:=fun j=>listed.getD j false) h.cls i o (by simpa using ho) hr p.1 Wo;have Zx:=(h.mem p.1).1 (hm p Bq);have h2:p.1<listed.size:=by rw[h.size];exact Zx.1
  have hk2:=Zx.2;simp only[adF,h2,dite_true]at nW hk2;rw[hk2]at nW;cases nW
 ·simp only[EA hoi,EA ho]at Wo
  exact Wo
def AQ {N n0:Nat} {w0:World} {κ0:Nat->BK} {ρ0:Nat->Nat} (lL: ∀ o∈ops.toList,pZ N o=true) (he:tq ops=true) {Q:Exit->Act->World->Prop} {sE:St} (hQ: ∀ a w κ ρ,In N n0 w0 κ0 ρ0 sE a w κ ρ->Q .normal a w):
  ∀ (fuel:Nat) (R:List (Nat×Cl)) (listed:Array Bool) (s:St) (a:Act) (w:World) (κ:Nat->BK) (ρ:Nat->Nat),R.length=fuel->FN ops (R.map acz) listed->R.Pairwise (fun p q=>rel ops p q=true)->Jo P ops R s sE->In N n0 w0 κ0 ρ0 s a w κ ρ->wpAny P .any ops Q fuel listed a w:=by
 intro fuel
 induction fuel with
 |zero=>
  intro R listed s a w κ ρ hl hL hp hrun hI;have:R=[]:=List.eq_nil_of_length_eq_zero hl;subst this;refine⟨?_,hQ a w κ ρ (by rw[← show s=sE from hrun];exact hI)⟩;apply List.eq_nil_iff_forall_not_mem.2;intro i hi;have⟨h1,o,ho,_⟩:=mem_ready.1 hi;have:=(hL.mem i).2 ⟨(acF.1 ho).1,h1⟩;cases this
 |succ fuel ih=>
  intro R listed s a w κ ρ hl hL hp hrun hI;constructor
  ·intro Ka
   exact absurd Ka (hL.ready he (fun e=>by
    have:=congrArg ac0 e;rw[abk,hl]at this
    cases this))
  ·intro i hi
   have⟨h1,o,ho,mN⟩:=mem_ready.1 hi;have hi1:i<ops.size:=(acF.1 ho).1;obtain⟨⟨i',ci⟩,zR,rfl⟩:=ac2.1 ((hL.mem i).2 ⟨hi1,h1⟩);simp only at ho hi1 h1 mN;obtain⟨pre,post,rfl⟩:=aff zR;rw[acT]at hp
   have⟨UD,Wu,hp3⟩:=hp;have hp4:=aea.1 Wu;have⟨s1,mq,zS⟩:=zg _ i' _ _ s sE o ho (ahead hL ho mN (fun p Bq=>by simp only[acI,adV];exact .inl (afb Bq)) (fun p Bq=>hp3 p Bq _ (by simp))) hrun;unfold wpOp;simp only[ho];refine rD (lL o (abt.2 (ae3 ho))) mq hI fun c s2 a2 w2 κ2 ρ2 hk2 O1=> ?_;obtain⟨_,rfl⟩:=hk2;rw[acI,abh]at hL
   exact ih (pre++post) (listed.setIfInBounds i' true) s2 a2 w2 κ2 ρ2 (by simp at hl⊢;omega) (by rw[acI];exact hL.next ho mN) (acT.2 ⟨UD,hp4.2,fun x hx y hy=>hp3 x hx y (ab2 _ hy)⟩) zS O1
def FN.start:FN ops (acD ops.size) (acH ops.size false):=by
 have hs0: ∀ i (d:Bool),i<ops.size->(acH ops.size false).getD i d=false:=fun i d hi=>by simp[adF,hi]
 refine⟨afm,fun i=> ?_,by simp,fun j o ho hj=> ?_⟩
 ·rw[acS]
  exact⟨fun h=>⟨h,hs0 i true h⟩,fun h=>h.1⟩
 ·exfalso
  rcases acC j ops.size with h1|h1
  ·rw[hs0 j false h1]at hj;cases hj
  ·simp[adF,show ¬ j<ops.size by omega]at hj
def In.drew {N n0:Nat} {w0 w:World} {κ0 κ:Nat->BK} {ρ0 ρ:Nat->Nat} {a:Act} (hI:In N n0 w0 κ0 ρ0 s a w κ ρ):In N n0 w0 κ0 ρ0 s a { w with drawn:=w.drawn+1 } κ ρ:=by
 have⟨h1,h2,h3,h4,h5⟩:=hI;have m:Mv (fun _=>False) s.H.length w κ ρ w.drew κ ρ:=lQ _ _ _ _;exact⟨h1.mv m (fun _ h=>h),h2.trans m.fr,h3,h4,h5⟩
def M1 (hm:P.follows .mixedOrders=true):qj P (DR1 P):=by
 intro id ops s K h N n0 w0 κ0 ρ0 a w κ ρ hI lL Q hQ;rw[abi]at lL
 refine wp_region_any hm ?_;have⟨cl,sE,hlen,_,GW,hK,hrun⟩:=B8 ops.toList 0 s [] (fun j=>by simp) rfl h;simp only[sL,ada,decide_eq_true_eq,abi,acS]at GW;have⟨hcl,GW⟩:=GW;rw[← List.range_eq_range',show ops.toList.length=ops.size by simp]at hrun
 refine AQ lL ?_ (fun a w κ ρ hI=>hQ sE a w κ ρ hK hI) ops.size _ (acH ops.size false) s a { w with drawn:=w.drawn+1 } κ ρ (by simp) ?_ ?_ hrun hI.drew
 ·unfold tq
  rw[abi];intro j hj;rw[abi];exact(GW j (acS.1 hj)).1
 ·rw[ae4]
  have:(acD ops.size).map (acz ∘ fun i=>(i,cl.getD i .q0))=acD ops.size:=List.map_id' _;rw[this];exact FN.start
 ·rw[List.pairwise_map]
  refine List.Pairwise.imp_of_mem ?_ List.pairwise_lt_range;intro p q hp hq hlt;have:=(GW q (acS.1 hq)).2 p hlt;unfold rel;exact this
end
def tp (n b:Nat):Nat:=if b=n then n+1 else if b=n+1 then n else b
def SU (n b:Nat):tp n (tp n b)=b:=by unfold tp;(repeat' split)<;>omega
def acb {n b m:Nat} (h:n+1<m) (hb:b<m):tp n b<m:=by unfold tp;(repeat' split)<;>omega
def Zb {n b:Nat} (h:b<n):tp n b=b:=by unfold tp;rw[aaO (by omega),aaO (by omega)]
def Loc.rn (n:Nat):Loc->Loc
 | .slot i=> .slot i
 | .cell b i=> .cell (tp n b) i
def BK.rn (n:Nat):BK->BK
 | .lock m=> .lock m
 | .bB m l=> .bB m (l.rn n)
 | .wr b=> .wr (tp n b)
def BK.Vq {n:Nat} {k:BK} {m:Nat}:(k.rn n).fits m↔k.fits m:=by cases k<;>exact Iff.rfl
def xD {α:Type _} (n:Nat) (H:List (Option α)):List (Option α):=(acD H.length).map fun b=>(H[tp n b]?).getD none
def OU {α:Type _} (n:Nat) (H:List (Option α)):(xD n H).length=H.length:=by simp[xD]
def wM {α:Type _} {n:Nat} {H:List (Option α)} {b:Nat} {x:α} (h:(xD n H)[b]? =some (some x)):H[tp n b]? =some (some x):=by
 unfold xD at h;rw[abj]at h
 have⟨c,hc,e⟩:=abz.1 h;have⟨O2,hc2⟩:=abq.1 hc;rw[List.getElem_range]at hc2
 subst hc2;cases hx:H[tp n b]? with
 |none=>rw[hx]at e;cases e
 |some y=>rw[hx]at e;simpa using e
def St.rn (n:Nat) (s:St):St:=⟨fun i=>(s.sl i).dY (tp n),(xD n s.H).map (dV (tp n))⟩
def KK (n:Nat) (s:St):(s.rn n).H.length=s.H.length:=by simp[St.rn,OU]
section
variable {w:World} {κ:Nat->BK} {ρ:Nat->Nat} {n:Nat}
def yB:gS w κ w fun g=>(κ g).rn n:=fy fun g m h=>BK.Vq.2 h
def Vr (l:Loc):Dz w κ w (fun g=>(κ g).rn n) l (l.rn n):=⟨yB,fun g m _ h=>⟨by simp[h,BK.rn],rfl⟩⟩
def bZ.rn {m:Nat} {l:Loc} {x:ab} {v:Value} (hx:x.ok m=true) (h:bZ w κ ρ l x v):bZ w (fun g=>(κ g).rn n) (fun b=>ρ (tp n b)) (l.rn n) (x.dY (tp n)) v:=
 bZ.dY (n:=m) (σ:=tp n) (ρ':=fun b=>ρ (tp n b)) (yB (n:=n)) (fun b _=>congrArg ρ (SU n b)) hx (fun _ _ _ _ _=>Vr l) h
def fJ.rn {m:Nat} {l:Loc} {x:bJ} {v:Value} (hx:x.ok m=true) (h:fJ w κ ρ l x v):fJ w (fun g=>(κ g).rn n) (fun b=>ρ (tp n b)) (l.rn n) (x.dY (tp n)) v:=by
 cases x with
 |c x=>exact⟨by rw[ab.m7];exact h.1,h.2.rn hx⟩
 |agg cs=>
  obtain⟨vs,rfl,hs,hi⟩:=h;refine⟨vs,rfl,by simpa using hs,fun i h h'=> ?_⟩;have hi2:i<cs.length:=by simpa using h
  rw[abA,ab.m7];exact⟨(hi i hi2 h').1,(hi i hi2 h').2.rn (abi.1 hx _ (acN hi2))⟩
def cm.rn {m:Nat} {l:Loc} {x:al} {v:Value} (hx:x.ok m=true) (h:cm w κ ρ l x v):cm w (fun g=>(κ g).rn n) (fun b=>ρ (tp n b)) (l.rn n) (x.dY (tp n)) v:=by
 cases x with
 |c x=>exact bZ.rn (x:=x) hx h
 |agg cs=>exact fJ.rn (x:= .agg cs) hx h
 |dt ts=>
  obtain⟨vs,rfl,hs,hi⟩:=h;refine⟨vs,rfl,by simpa using hs,fun i h h'=> ?_⟩;have hi2:i<ts.length:=by simpa using h
  rw[abA];exact(hi i hi2 h').rn (abi.1 hx _ (acN hi2))
def In.rn {N n0:Nat} {w0:World} {κ0:Nat->BK} {ρ0:Nat->Nat} {s:St} {a:Act} (h0:n0<=n) (hn:n+1<s.H.length) (hI:In N n0 w0 κ0 ρ0 s a w κ ρ):In N n0 w0 κ0 ρ0 (s.rn n) a w (fun g=>(κ g).rn n) (fun b=>ρ (tp n b)):=by
 have⟨hR,iy,GZ,hlen,hsz⟩:=hI;have hlt: ∀ b,b<s.H.length->tp n b<s.H.length:=fun b hb=>acb hn hb;refine⟨⟨hR.defers,fun i hi=>cm.rn (l:= .slot i) (hR.ok i) (hR.slot i hi),fun i hi=> ?_,fun i=> ?_,⟨fun b cs hb=> ?_,fun b cs hb x hx=> ?_⟩⟩,⟨iy.os,iy.tape,iy.output,iy.size,fun g m hg hl=> ?_,iy.grow.trans yB⟩,fun b hb=> ?_,by rw[KK];exact hlen,hsz⟩
 ·show(s.sl i).dY (tp n)=_
  rw[hR.out i hi];rfl
 ·rw[KK]
  exact al.lz hlt (hR.ok i)
 ·simp only[St.rn,abj]at hb
  have⟨x,hx,e⟩:=abz.1 hb;cases x with
  |none=>cases e
  |some ds=>
   cases e;have⟨ho,Ya⟩:=hR.heap.eu _ ds (wM hx);refine⟨by simp only[ho,BK.rn,SU],?_⟩;rcases Ya with ⟨c,e,k1,k2,k3⟩|hM
   rotate_left
   ·exact .inr ((kM.dY hM).mv yB rfl)
   refine .inl ⟨c,e,k1,by simpa using k2,fun i hi hi'=> ?_⟩;have hi2:i<ds.length:=by simpa using hi
   rw[abA];have:=bZ.rn (n:=n) (hR.heap.ok _ ds (wM hx) _ (acN hi2)) (k3 i hi2 hi');simp only[Loc.rn,SU]at this;exact this
 ·rw[KK]
  simp only[St.rn,abj]at hb;have⟨y,hy,e⟩:=abz.1 hb;cases y with
  |none=>cases e
  |some ds=>
   cases e;obtain⟨z,hz,rfl⟩:=ac2.1 hx;exact ab.lz hlt (hR.heap.ok _ ds (wM hy) z hz)
 ·have⟨h1,h2⟩:=iy.lock g m hg hl
  exact⟨by simp only[h1,BK.rn],h2⟩
 ·show ρ (tp n b)=ρ0 b
  rw[Zb (by omega)];exact GZ b hb
end
section
variable {P:Program} {ops:Array Oper}
def DI: ∀ {X Y:List (Nat×Cl)} {s m s':St},Jo P ops X s m->Jo P ops Y m s'->Jo P ops (X++Y) s s'
 |[],Y,s,m,s',h1,h2=>by rw[show s=m from h1];exact h2
 |(i,c)::X,Y,s,m,s',h1,h2=>by
  have⟨o,s1,ho,k1,k2⟩:=h1;exact⟨o,s1,ho,k1,DI k2 h2⟩
def Mr (ops:Array Oper) (i a b:Nat):Bool:=((zd ops.toList []).getD i 0).testBit a||((zd ops.toList []).getD i 0).testBit b
structure Z7 (ops:Array Oper) (Rp:List (Nat×Cl)) (A B A' B':Nat×Cl) (R1 R2:List (Nat×Cl)):Prop where
 aau:tq ops=true
 nodup:((Rp++A::B::R1).map acz).Nodup
 mem: ∀ i,i∈(Rp++A::B::R1).map acz↔i<ops.size
 eA:A'.1=A.1
 eB:B'.1=B.1
 e2:R2.map acz=R1.map acz
 p1:(Rp++B::R1).Pairwise fun p q=>rel ops p q=true
 p2:(Rp++A'::R2).Pairwise fun p q=>rel ops p q=true
 pA: ∀ p∈Rp,rel ops p A=true
 pB: ∀ p∈Rp,rel ops p B'=true
 gI: ∀ q∈R1,Mr ops q.1 A.1 B.1=true
def Two (P:Program) (ops:Array Oper) (s:St) (K:St->Prop):Prop:=
 ∃ (Rp:List (Nat×Cl)) (A B A' B':Nat×Cl) (R1 R2:List (Nat×Cl)) (sp sE sE2:St) (n:Nat),Z7 ops Rp A B A' B' R1 R2/\Jo P ops Rp s sp/\Jo P ops (A::B::R1) sp sE/\Jo P ops (B'::A'::R2) sp sE2/\
  K sE/\K (sE2.rn n)/\s.H.length<=n/\n+1<sE2.H.length
def VL {N n0:Nat} {w0:World} {κ0:Nat->BK} {ρ0:Nat->Nat} (lL: ∀ o∈ops.toList,pZ N o=true) {A B A' B':Nat×Cl} {R1 R2:List (Nat×Cl)} {Q:Exit->Act->World->Prop} {sp sE sE2:St} (hQ1: ∀ a w κ ρ,In N n0 w0 κ0 ρ0 sE a w κ ρ->Q .normal a w) (hQ2: ∀ a w κ ρ,In N n0 w0 κ0 ρ0 sE2 a w κ ρ->Q .normal a w)
  (hr1:Jo P ops (A::B::R1) sp sE) (BE:Jo P ops (B'::A'::R2) sp sE2) (he:tq ops=true) (eA:A'.1=A.1) (eB:B'.1=B.1) (e2:R2.map acz=R1.map acz) (gI: ∀ q∈R1,Mr ops q.1 A.1 B.1=true):
  ∀ (fuel:Nat) (Rp:List (Nat×Cl)) (listed:Array Bool) (s:St) (a:Act) (w:World) (κ:Nat->BK) (ρ:Nat->Nat),Rp.length+2+R1.length=fuel->FN ops ((Rp++A::B::R1).map acz) listed->
   (Rp++B::R1).Pairwise (fun p q=>rel ops p q=true)->(Rp++A'::R2).Pairwise (fun p q=>rel ops p q=true)->(∀ p∈Rp,rel ops p A=true)->(∀ p∈Rp,rel ops p B'=true)->
   Jo P ops Rp s sp->In N n0 w0 κ0 ρ0 s a w κ ρ->wpAny P .any ops Q fuel listed a w:=by
 have l2:R2.length=R1.length:=by simpa using congrArg ac0 e2
 intro fuel
 induction fuel with
 |zero=>intro Rp listed s a w κ ρ hl;omega
 |succ fuel ih=>
  intro Rp listed s a w κ ρ hl hL UD Wu hA hB hrun hI;constructor
  ·intro Ka
   exact absurd Ka (hL.ready he (by simp))
  ·intro i hi
   have⟨h1,o,ho,mN⟩:=mem_ready.1 hi;have hi1:i<ops.size:=(acF.1 ho).1;have hm:=(hL.mem i).2 ⟨hi1,h1⟩;rw[acI,adV,abh,abh,acB,acB]at hm
   have hRp: ∀ p∈Rp,p.1∈(Rp++A::B::R1).map acz:=fun p Bq=>by simp only[acI,adV];exact .inl (afb Bq)
   have go: ∀ {s1:St} {X:Nat->Array Bool->Act->World->Prop},(∃ c,Step P ops c o s s1)->(∀ c a2 w2 κ2 ρ2,In N n0 w0 κ0 ρ0 s1 a2 w2 κ2 ρ2->wpAny P .any ops Q fuel (listed.setIfInBounds i true) a2 w2)->wpOp P ops Q i (wpAny P .any ops Q fuel (listed.setIfInBounds i true)) a w:=fun⟨c,mq⟩ hk=>by
    unfold wpOp;simp only[ho];refine rD (lL o (abt.2 (ae3 ho))) mq hI fun c s2 a2 w2 κ2 ρ2 hk2 O1=> ?_;obtain⟨_,rfl⟩:=hk2;exact hk c a2 w2 κ2 ρ2 O1
   rcases hm with hm|rfl|rfl|hm
   ·obtain⟨⟨i',ci⟩,zR,rfl⟩:=ac2.1 hm
    obtain⟨pre,post,rfl⟩:=aff zR;have Yd:=UD;have Ye:=Wu;rw[adH,afn]at Yd Ye
    rw[acT]at Yd Ye
    have⟨q1,q2,q3⟩:=Yd;have⟨u1,u2,u3⟩:=Ye;have⟨s1,mq,zS⟩:=zg pre i' ci post s sp o ho (ahead hL ho mN (fun p Bq=>hRp p (by simp[Bq])) (fun p Bq=>q3 p Bq _ (by simp))) hrun;refine go (X:=fun _ _ _ _=>True) ⟨_,mq⟩ fun c a2 w2 κ2 ρ2 O1=> ?_;have NL:FN ops ((pre++post++A::B::R1).map acz) (listed.setIfInBounds i' true):=by
     have:=hL;simp only[acI,abh,adH,afn]at this⊢;exact this.next ho mN
    refine ih (pre++post) _ s1 a2 w2 κ2 ρ2 (by simp at hl⊢;omega) NL ?_ ?_ (fun p Bq=>hA p (by simp at Bq⊢;rcases Bq with h|h<;>simp[h])) (fun p Bq=>hB p (by simp at Bq⊢;rcases Bq with h|h<;>simp[h])) zS O1
    ·rw[adH,acT]
     exact⟨q1,(aea.1 q2).2,fun x hx y hy=>q3 x hx y (ab2 _ hy)⟩
    ·rw[adH,acT]
     exact⟨u1,(aea.1 u2).2,fun x hx y hy=>u3 x hx y (ab2 _ hy)⟩
   ·have⟨s1,mq,zS⟩:=zg Rp A.1 A.2 (B::R1) s sE o ho (ahead hL ho mN hRp hA) (DI hrun hr1)
    refine go (X:=fun _ _ _ _=>True) ⟨_,mq⟩ fun c a2 w2 κ2 ρ2 O1=> ?_;refine AQ lL he hQ1 fuel (Rp++B::R1) _ s1 a2 w2 κ2 ρ2 (by simp at hl⊢;omega) ?_ UD zS O1;have:=hL;simp only[acI,abh]at this⊢;exact this.next ho mN
   ·have⟨s1,mq,zS⟩:=zg Rp B'.1 B'.2 (A'::R2) s sE2 o (by rw[eB];exact ho) (fun p Bq oi hoi=>ahead hL ho mN hRp (fun p Bq=>by have:=hB p Bq;unfold rel at this⊢;rw[eB]at this;exact this) p Bq oi hoi) (DI hrun BE)
    refine go (X:=fun _ _ _ _=>True) ⟨_,mq⟩ fun c a2 w2 κ2 ρ2 O1=> ?_;refine AQ lL he hQ2 fuel (Rp++A'::R2) _ s1 a2 w2 κ2 ρ2 (by simp at hl⊢;omega) ?_ Wu zS O1;have:=hL;simp only[acI,abh]at this⊢;rw[eA,e2];rw[show Rp.map acz++A.1::B.1::R1.map acz=(Rp.map acz++[A.1])++B.1::R1.map acz by simp]at this
    have:=this.next ho mN;simpa using this
   ·exfalso
    obtain⟨q,hq,rfl⟩:=ac2.1 hm;have hn:=gI q hq;unfold Mr at hn;rw[adE]at hn
    have Ws:=zf (l:=ops.toList) (listed:=fun j=>listed.getD j false) hL.cls q.1 o (by simpa using ho) mN;have dQ: ∀ k,k∈(Rp++A::B::R1).map acz->listed.getD k false=true->False:=fun k hk Zy=>by
     have Zx:=(hL.mem k).1 hk;have h2:k<listed.size:=by rw[hL.size];exact Zx.1
     have hk2:=Zx.2;simp only[adF,h2,dite_true]at Zy hk2;rw[hk2]at Zy;cases Zy
    rcases hn with hn|hn
    ·exact dQ A.1 (by simp) (Ws _ hn)
    ·exact dQ B.1 (by simp) (Ws _ hn)
def Na (hm:P.follows .mixedOrders=true):qj P (Two P):=by
 intro id ops s K h N n0 w0 κ0 ρ0 a w κ ρ hI lL Q hQ;rw[abi]at lL
 have⟨Rp,A,B,A',B',R1,R2,sp,sE,sE2,n,hT,r1,r2,r3,k1,k2,Jc,FH⟩:=h;refine wp_region_any hm ?_;have hI0:n0<=s.H.length:=hI.len;have hsz:Rp.length+2+R1.length=ops.size:=by
  have h1:((Rp++A::B::R1).map acz).Perm (acD ops.size):=(List.perm_ext_iff_of_nodup hT.nodup afm).2 (fun i=>by rw[hT.mem,acS]);have:=h1.length_eq;simp at this;omega
 have hL:FN ops ((Rp++A::B::R1).map acz) (acH ops.size false):=by
  have h0:FN ops (acD ops.size) (acH ops.size false):=FN.start;exact⟨hT.nodup,fun i=>by rw[hT.mem,← h0.mem,acS],h0.size,h0.cls⟩
 exact VL lL (fun a w κ ρ hI=>hQ sE a w κ ρ k1 hI) (fun a w κ ρ hI=>hQ _ a w _ _ k2 (hI.rn (afE hI0 Jc) FH)) r2 r3 hT.aau hT.eA hT.eB hT.e2 hT.gI ops.size Rp _ s a { w with drawn:=w.drawn+1 } κ ρ hsz hL hT.p1 hT.p2 hT.pA hT.pB r1 hI.drew
def ac6 (P:Program) (ops:Array Oper) (s:St) (K:St->Prop):Prop:=Pb P ops s K
def DR (P:Program) (ops:Array Oper) (s:St) (K:St->Prop):Prop:=DR1 P ops s K\/Two P ops s K\/ac6 P ops s K
def tZ (hm:P.follows .mixedOrders=true):qj P (DR P):=by
 intro id ops s K h;rcases h with h|h|h
 ·exact M1 hm id ops s K h
 ·exact Na hm id ops s K h
 ·exact h id
end
abbrev HB:=List (Option (List ab))
def i64 (n:Int):al:= .c (.f (.v (.int .i64 n)))
def aB (b:Bool):al:= .c (.f (.v (.bool b)))
def St.bare (H:HB):St:=⟨fun _=> .c .any,H⟩
def St.of (H:HB):List (Nat×al)->St
 |[]=>St.bare H
 |(d,x)::l=>(St.of H l).put (some d) x
section
variable {s:St} {H:HB}
def JW {d:Nat} {x:al} {l:List (Nat×al)}:(St.of H ((d,x)::l)).ev (.tmp d)=x:=aQ _ _ _
def GH {d t:Nat} {x:al} {l:List (Nat×al)} (h:t≠d):(St.of H ((d,x)::l)).ev (.tmp t)=(St.of H l).ev (.tmp t):=aH _ _ h
def ZR {d:Option Tmp} {x:al}:(s.put d x).H=s.H:=abU d x
def Tu {l:List (Nat×al)}:(St.of H l).H=H:=by
 induction l with
 |nil=>rfl
 |cons a l ih=>have⟨d,x⟩:=a;exact ih
def St.lY (s:St) (H:HB):St:={ s with H:=H }
def RB {d:Option Tmp} {x:al}:(s.lY H).put d x=(s.put d x).lY H:=by cases d<;>rfl
end
def Tf {n0:Nat} {s:St} {H:HB} {l:List (Nat×al)} (h0:n0<=s.H.length) (hH:Bk s.H H) (h: ∀ p∈l,al.Le (s.sl p.1) p.2/\(s.sl p.1= .c .any->p.2= .c .any)):dG n0 s (St.of H l):=by
 refine MZ h0 (by rw[Tu];exact hH) (fun i=> ?_) (fun i hi=> ?_)
 ·induction l with
  |nil=>exact .any _
  |cons a l ih=>
   have⟨d,x⟩:=a;by_cases e:i=d
   ·subst e
    have e1:(St.of H ((i,x)::l)).sl i=x:=aQ _ _ _;rw[e1];exact(h (i,x) (by simp)).1
   ·have e1:(St.of H ((d,x)::l)).sl i=(St.of H l).sl i:=aH _ _ e
    rw[e1];exact ih fun p hp=>h p (by simp[hp])
 ·induction l with
  |nil=>rfl
  |cons a l ih=>
   have⟨d,x⟩:=a;by_cases e:i=d
   ·subst e
    have e1:(St.of H ((i,x)::l)).sl i=x:=aQ _ _ _;rw[e1];exact(h (i,x) (by simp)).2 hi
   ·have e1:(St.of H ((d,x)::l)).sl i=(St.of H l).sl i:=aH _ _ e
    rw[e1];exact ih fun p hp=>h p (by simp[hp])
def VV {n0:Nat} {s:St} {H:HB} {l:List (Nat×al)} (h0:n0<=H.length) (hH:s.H=H) (h: ∀ p∈l,s.sl p.1=p.2):dG n0 s (St.of H l):=by
 refine K9 (by rw[hH];exact h0) (by rw[Tu,hH]) fun i=> ?_
 induction l with
 |nil=>exact .inr rfl
 |cons a l ih=>
  have⟨d,x⟩:=a;by_cases e:i=d
  ·subst e
   left;show fq (St.of H l).sl i x i=_;rw[aQ];exact(h (i,x) (by simp)).symm
  ·have e1:(St.of H ((d,x)::l)).sl i=(St.of H l).sl i:=aH _ _ e
   rw[e1];exact ih fun p hp=>h p (by simp[hp])
def JD:Nat->List al->List (Nat×al)
 |_,[]=>[]
 |i,x::l=>(i,x)::JD (i+1) l
def Gf: ∀ (l:List al) (i:Nat) (p:Nat×al),p∈JD i l->i<=p.1/\l[p.1-i]? =some p.2
 |[],i,p,h=>by cases h
 |x::l,i,p,h=>by
  rcases acB.1 h with rfl|h
  ·simp
  ·have⟨h1,h2⟩:=Gf l (i+1) p h
   refine⟨by omega,?_⟩;rw[show p.1-i=(p.1-(i+1))+1 by omega,ae2];exact h2
def pX {args:List al} {H:HB}:dG H.length (entry fn args H) (St.of H (JD 0 args)):=by
 refine VV (acE _) rfl fun p hp=> ?_;have⟨_,h⟩:=Gf args 0 p hp;show args.getD p.1 _=_;rw[GD];rw[Nat.sub_zero]at h
 rw[h];rfl
def abR {P:Program} (hm:P.follows .mixedOrders=true) {c:Code} {args:List al} {H H':HB} {r:al} (hf:P.funcs[f]? =some fn) (hb:fn.body=some c) (hn:(fn.name== "runtime.NumGoroutine")=false) (hca:args.length<=fn.ntmps) (hcode:codeOk fn.ntmps c=true)
  (hflat:Flat r=true) (hrok:r.ok H'.length=true) (hlen:H.length<=H'.length) (hHok:H'.all (okB H'.length)=true) (h:W P (DR P) H.length c (St.of H (JD 0 args)) (Tg P fn r H')):Ok P f args H r H':=
 U8 (tZ hm) hf hb hn hca hcode hflat hrok hlen hHok pX h
def YJ {P:Program} (hm:P.follows .mixedOrders=true) {c:Code} {args:List al} {r:al} (hf:P.funcs[f]? =some fn) (hb:fn.body=some c) (hn:(fn.name== "runtime.NumGoroutine")=false) (hca:args.length<=fn.ntmps) (hcode:codeOk fn.ntmps c=true)
  (hflat:Flat r=true) (hrok:r.ok 0=true) (h:W P (DR P) 0 c (St.of [] (JD 0 args)) (xJ P fn r)):Ok P f args [] r []:=
 Rm (tZ hm) hf hb hn hca hcode hflat hrok (pX (H:=[])) h
section
variable {P:Program} {D:Array Oper->St->(St->Prop)->Prop} {n0:Nat} {s:St} {K:bN->St->Prop}
def vr (P:Program) (D:Array Oper->St->(St->Prop)->Prop) (n0:Nat) (b:Code) (K:bN->St->Prop):bN->St->Prop:=fun e s'=>match e with
 | .normal=>W P D n0 b s' K\/(∃ s2,dG n0 s' s2/\W P D n0 b s2 K)\/ ∃ (α:Type) (F:α->St),FZ n0 s' F/\ ∀ x,W P D n0 b (F x) K
 | .exit i=>K (.exit i) s'
 | .ret=>K .ret s'
def o6 (id:Nat) (K:bN->St->Prop):bN->St->Prop:=fun e s'=>match e with
 | .normal=>K .normal s'
 | .exit j=>if j=id then K .normal s' else K (.exit j) s'
 | .ret=>K .ret s'
def abD (n0:Nat) (I:α->St->Prop) (μ:α->Nat) (x:α) (K:bN->St->Prop):bN->St->Prop:=fun e s'=>match e with
 | .normal=> ∃ y s2,dG n0 s' s2/\I y s2/\μ y<μ x
 | .exit i=>K (.exit i) s'
 | .ret=>K .ret s'
def ao {a b:Code} (h:W P D n0 a s (vr P D n0 b K)):W P D n0 (.seq a b) s K:=h
def dI {b:Code} (h:W P D n0 b s K):vr P D n0 b K .normal s:= .inl h
def jq {b:Code} (s2:St) (hw:dG n0 s s2) (h:W P D n0 b s2 K):vr P D n0 b K .normal s:= .inr (.inl ⟨s2,hw,h⟩)
def KM {b:Code} (F:α->St) (hw:FZ n0 s F) (h: ∀ x,W P D n0 b (F x) K):vr P D n0 b K .normal s:= .inr (.inr ⟨α,F,hw,h⟩)
def jT {b:Code} {i:Nat} (h:K (.exit i) s):vr P D n0 b K (.exit i) s:=h
def KN {b:Code} (h:K .ret s):vr P D n0 b K .ret s:=h
def av {c:Code} (h:W P D n0 c s (o6 id K)):W P D n0 (.block id c) s K:=h
def jH (h:K .normal s):o6 id K .normal s:=h
def fM (e:j=id) (h:K .normal s):o6 id K (.exit j) s:=by subst e;show(if j=j then _ else _);rw[aaP rfl];exact h
def PX (e:j≠id) (h:K (.exit j) s):o6 id K (.exit j) s:=by show(if j=id then _ else _);rw[aaO e];exact h
def Gk (h:K .ret s):o6 id K .ret s:=h
def nJ (h:K .normal s):W P D n0 .skip s K:=h
def kh (h:K (.exit id) s):W P D n0 (.exit id) s K:=h
def uf (h:K .ret s):W P D n0 .ret s K:=h
def Pr {c:Operand} {a b:Code} {t:Bool} (hc:s.ev c= .c (.f (.v (.bool t)))) (h1:t=true->W P D n0 a s K) (h2:t=false->W P D n0 b s K):W P D n0 (.cond c a b) s K:=by
 unfold W;rw[hc];cases t with
 |true=>exact h1 rfl
 |false=>exact h2 rfl
def Xc {c:Code} (I:α->St->Prop) (μ:α->Nat) (x0:α) (s0:St) (hw:dG n0 s s0) (h0:I x0 s0) (h: ∀ x s1,I x s1->W P D n0 c s1 (abD n0 I μ x K)):W P D n0 (.loop c) s K:=⟨α,I,μ,x0,⟨s0,hw,h0⟩,h⟩
structure wQ (n0:Nat) {α:Type} (st:α->St) (Inv:α->Prop) (μ:α->Nat) (x:α) (K:bN->St->Prop) (e:bN) (s':St):Prop where
 out:match e with
  | .normal=> ∃ y,dG n0 s' (st y)/\Inv y/\μ y<μ x
  | .exit i=>K (.exit i) s'
  | .ret=>K .ret s'
def ki {K K':bN->St->Prop}: ∀ (c:Code) (s:St) (K K':bN->St->Prop),(∀ e s,K e s->K' e s)->W P D n0 c s K->(∀ ops s K K',(∀ s,K s->K' s)->D ops s K->D ops s K')->W P D n0 c s K'
 | .skip,s,K,K',h,hh,hD=>h _ _ hh
 | .region _ ops false,s,K,K',h,hh,hD=>by
  have key: ∀ (l:List Oper) (s:St),xL P ops l s (K .normal)->xL P ops l s (K' .normal):=by
   intro l
   induction l with
   |nil=>intro s k;exact h _ _ k
   |cons o l ih=>
    intro s k;rcases k with k|⟨k1,f,xs,k2,bs,ys,Hs,Q,k3,k4,k5,k6,k7,k8,k9,k10⟩|⟨k1,t,tx,x,y,sz,by_,zs,n,fs,k2,k3,k4,k5,k6,k7,k8,k9⟩|⟨s2,k1,k2⟩|⟨k1,α,F,k2,k3,k4⟩
    ·exact .inl (qo (fun c' s2 k=>ih s2 k) k)
    ·exact .inr (.inl ⟨k1,f,xs,k2,bs,ys,Hs,Q,k3,k4,k5,k6,k7,k8,k9,fun r Hs' hq=>⟨(k10 r Hs' hq).1,ih _ (k10 r Hs' hq).2⟩⟩)
    rotate_right
    ·exact .inr (.inr (.inr (.inr ⟨k1,α,F,k2,k3,fun x=>ih _ (k4 x)⟩)))
    rotate_right
    ·exact .inr (.inr (.inr (.inl ⟨s2,k1,qo (fun c' s2 k=>ih s2 k) k2⟩)))
    ·exact .inr (.inr (.inl ⟨k1,t,tx,x,y,sz,by_,zs,n,fs,k2,k3,k4,k5,k6,k7,k8,fun cap hc=>ih _ (k9 cap hc)⟩))
  exact key _ _ hh
 | .region _ ops true,s,K,K',h,hh,hD=>hD _ _ _ _ (fun s k=>h _ _ k) hh
 | .seq a b,s,K,K',h,hh,hD=>by
  refine ki (K:=K) (K':=K') a s _ _ (fun e s k=> ?_) hh hD;cases e with
  |normal=>
   rcases k with k|⟨s2,hw,k⟩|⟨α,F,hw,k⟩
   ·exact .inl (ki (K:=K) (K':=K') b s _ _ h k hD)
   ·exact .inr (.inl ⟨s2,hw,ki (K:=K) (K':=K') b s2 _ _ h k hD⟩)
   ·exact .inr (.inr ⟨_,F,hw,fun x=>ki (K:=K) (K':=K') b (F x) _ _ h (k x) hD⟩)
  |exit i=>exact h _ _ k
  |ret=>exact h _ _ k
 | .cond c a b,s,K,K',h,hh,hD=>by
  unfold W at hh;split at hh
  next t ht=>
   refine Pr ht (fun e=> ?_) (fun e=> ?_)
   ·rw[e,aaP rfl]at hh;exact ki (K:=K) (K':=K') a s _ _ h hh hD
   ·rw[e,aaO (by decide)]at hh;exact ki (K:=K) (K':=K') b s _ _ h hh hD
  ·cases hh
 | .block id c,s,K,K',h,hh,hD=>by
  refine ki (K:=K) (K':=K') c s _ _ (fun e s k=> ?_) hh hD;cases e with
  |normal=>exact h _ _ k
  |exit i=>
   dsimp only at k⊢;split at k
   ·rename_i e;rw[aaP e];exact h _ _ k
   ·rename_i e;rw[aaO e];exact h _ _ k
  |ret=>exact h _ _ k
 | .loop c,s,K,K',h,hh,hD=>by
  have⟨α,I,μ,x0,h0,round⟩:=hh;refine⟨α,I,μ,x0,h0,fun x s1 hi=>ki (K:=K) (K':=K') c s1 _ _ (fun e s k=> ?_) (round x s1 hi) hD⟩;cases e with
  |normal=>exact k
  |exit i=>exact h _ _ k
  |ret=>exact h _ _ k
 | .exit id,s,K,K',h,hh,hD=>h _ _ hh
 | .ret,s,K,K',h,hh,hD=>h _ _ hh
 | .rangeFunc ..,_,_,_,_,hh,_=>by cases hh
 | .scope ..,_,_,_,_,hh,_=>by cases hh
 | .label ..,_,_,_,_,hh,_=>by cases hh
 | .goto ..,_,_,_,_,hh,_=>by cases hh
 | .refuse ..,_,_,_,_,hh,_=>by cases hh
def tY: ∀ ops s (K K':St->Prop),(∀ s,K s->K' s)->DR P ops s K->DR P ops s K':=by
 intro ops s K K' h hh;have key: ∀ (l:List Oper) (s:St) (acc:List Cl),qp P ops l s acc K->qp P ops l s acc K':=by
  intro l
  induction l with
  |nil=>intro s acc k;exact⟨k.1,h _ k.2⟩
  |cons o l ih=>
   intro s acc k;exact qo (fun c' s2 k=>ih s2 _ k) k
 rcases hh with hh|⟨Rp,A,B,A',B',R1,R2,sp,sE,sE2,n,hT,r1,r2,r3,k1,k2,h1,h2⟩|hh
 ·exact .inl (key _ _ _ hh)
 ·exact .inr (.inl ⟨Rp,A,B,A',B',R1,R2,sp,sE,sE2,n,hT,r1,r2,r3,h _ k1,h _ k2,h1,h2⟩)
 ·exact .inr (.inr fun id N n0 w0 κ0 ρ0 a w κ ρ hI hd Q hQ=>hh id N n0 w0 κ0 ρ0 a w κ ρ hI hd Q fun s a w κ ρ hk hI=>hQ s a w κ ρ (h _ hk) hI)
def aI {c:Code} (st:α->St) (Inv:α->Prop) (μ:α->Nat) (x0:α) (hw:dG n0 s (st x0)) (h0:Inv x0) (h: ∀ x,Inv x->W P (DR P) n0 c (st x) (wQ n0 st Inv μ x K)):W P (DR P) n0 (.loop c) s K:=by
 refine Xc (fun x s1=>Inv x/\s1=st x) μ x0 _ hw ⟨h0,rfl⟩ fun x s1 hi=> ?_;obtain⟨h1,rfl⟩:=hi;refine ki (K:=K) (K':=K) c _ _ _ (fun e s k=> ?_) (h x h1) tY;have k:=k.out;cases e with
 |normal=>have⟨y,k1,k2,k3⟩:=k;exact⟨y,st y,k1,⟨k2,rfl⟩,k3⟩
 |exit i=>exact k
 |ret=>exact k
structure VW (n0:Nat) {α β:Type} (st:α->St) (Inv:α->Prop) (μ:α->Nat) (x:α) (id:Nat) (stX:β->St) (InvX:β->Prop) (K:bN->St->Prop) (e:bN) (s':St):Prop where
 out:match e with
  | .normal=> ∃ y,dG n0 s' (st y)/\Inv y/\μ y<μ x
  | .exit i=>(i=id/\ ∃ y,dG n0 s' (stX y)/\InvX y)\/(i≠id/\K (.exit i) s')
  | .ret=>K .ret s'
def Ty {β:Type} {st:α->St} {x:α} {stX:β->St} {InvX:β->Prop} (h:K .ret s):VW n0 st Inv μ x id stX InvX K .ret s:=⟨h⟩
def ax {st:α->St} {x:α} (y:α) (hw:dG n0 s (st y)) (h1:Inv y) (h2:μ y<μ x):wQ n0 st Inv μ x K .normal s:=⟨y,hw,h1,h2⟩
def iC {st:α->St} {x:α} {i:Nat} (h:K (.exit i) s):wQ n0 st Inv μ x K (.exit i) s:=⟨h⟩
def Tx {st:α->St} {x:α} (h:K .ret s):wQ n0 st Inv μ x K .ret s:=⟨h⟩
inductive M3:al->al->Prop
 |refl (x:al):M3 x x
 |kJ:M3 (.c (.f .aD)) (.c (.f (.row [] 0)))
 |jj (q:Bool) (sz:Nat):M3 (.c (.f .aD)) (.c (.bB q sz [] 0))
 |jX (sz:Nat) (cs:List au) (len:Nat):M3 (.c (.bB true sz cs len)) (.c (.f (.row cs len)))
 |lS (sz:Nat) (cs:List au) (len:Nat):M3 (.c (.bB false sz cs len)) (.c (.f (.row [] len)))
theorem M3.le {x y:al} (h:M3 x y):al.Le x y/\(x= .c .any->y= .c .any):=by
 cases h with
 |refl=>exact⟨.refl _,id⟩
 |kJ=>exact⟨.c .kJ,fun e=>by cases e⟩
 |jj=>exact⟨.c (.jj _ _),fun e=>by cases e⟩
 |jX=>exact⟨.c (.jX _ _ _),fun e=>by cases e⟩
 |lS=>exact⟨.c (.lS _ _ _),fun e=>by cases e⟩
def Dx (s:St):List (Nat×al)->Prop
 |[]=>True
 |(d,x)::l=>(∃ y,s.ev (.tmp d)=y/\M3 y x)/\Dx s l
def Te {H:HB} {l:List (Nat×al)} {H0:HB} (hH0:s.H=H0) (h0:n0<=H0.length) (hH:Bk H0 H) (h:Dx s l):dG n0 s (St.of H l):=by
 subst hH0;refine Tf h0 hH ?_
 induction l with
 |nil=>intro p hp;cases hp
 |cons a l ih=>
  have⟨d,x⟩:=a;intro p hp;rcases acB.1 hp with rfl|hp
  ·have⟨y,h1,h2⟩:=h.1
   have h1:s.sl d=y:=h1;rw[h1];exact h2.le
  ·exact ih h.2 p hp
def aT {l:List Oper} (h:xL P l.toArray l s (K .normal)):W P D n0 (.region id l.toArray false) s K:=h
def oX {l:List Oper} (h:qp P l.toArray l s [] (K .normal)):W P (DR P) n0 (.region id l.toArray true) s K:= .inl h
end
section
variable {P:Program} {ops:Array Oper} {s s':St} {rest:List Oper} {d:Option Tmp} {ty:TypeId} {pos:String} {af:Array Edge} {g:Option (Nat×Bool)}
inductive Rg where
 |plain (K:St->Prop)
 |drawn (acc:List Cl) (K:St->Prop)
 |seq (acc:List Cl) (K:List Cl->St->Prop)
def Rg.push (c:Cl):Rg->Rg
 | .plain K=> .plain K
 | .drawn acc K=> .drawn (c::acc) K
 | .seq acc K=> .seq (c::acc) K
def Lg (P:Program) (ops:Array Oper):List Oper->St->List Cl->(List Cl->St->Prop)->Prop
 |[],s,acc,K=>K acc s
 |o::rest,s,acc,K=>vD P ops o s fun c s'=>Lg P ops rest s' (c::acc) K
def WR0 (P:Program) (ops:Array Oper) (l:List Oper) (s:St):Rg->Prop
 | .plain K=>xL P ops l s K
 | .drawn acc K=>qp P ops l s acc K
 | .seq acc K=>Lg P ops l s acc K
structure WR (P:Program) (ops:Array Oper) (l:List Oper) (s:St) (R:Rg):Prop where
 out:WR0 P ops l s R
def aY {l:List Oper} {K:St->Prop} (h:WR P ops l s (.plain K)):xL P ops l s K:=h.out
def jE {l:List Oper} {acc:List Cl} {K:St->Prop} (h:WR P ops l s (.drawn acc K)):qp P ops l s acc K:=h.out
def sG {l:List Oper} {c:Cl} {K:St->Prop} (h:WR P ops l s (.plain K)):WR P ops l s ((Rg.plain K).push c):=h
def B9 {l:List Oper} {c:Cl} {acc:List Cl} {K:St->Prop} (h:WR P ops l s (.drawn (c::acc) K)):WR P ops l s ((Rg.drawn acc K).push c):=h
def aab {l:List Oper} {c:Cl} {acc:List Cl} {K:List Cl->St->Prop} (h:WR P ops l s (.seq (c::acc) K)):WR P ops l s ((Rg.seq acc K).push c):=h
def cN {K:St->Prop} (h:K s):WR P ops [] s (.plain K):=⟨h⟩
def lG {acc:List Cl} {K:St->Prop} (hc:sL ops acc.reverse=true) (h:K s):WR P ops [] s (.drawn acc K):=⟨⟨hc,h⟩⟩
def TE {acc:List Cl} {K:List Cl->St->Prop} (h:K acc s):WR P ops [] s (.seq acc K):=⟨h⟩
def ta {o:Oper} {K K':Cl->St->Prop} (h: ∀ c s,K c s->K' c s) (hh:vD P ops o s K):vD P ops o s K':=qo h hh
def oV {o:Oper} {R:Rg} (h:vD P ops o s fun c s'=>WR P ops rest s' (R.push c)):WR P ops (o::rest) s R:=by
 refine⟨?_⟩;cases R with
 |plain K=>exact .inl (ta (fun c s k=>k.out) h)
 |drawn acc K=>exact ta (fun c s k=>k.out) h
 |seq acc K=>exact ta (fun c s k=>k.out) h
def FW {o:Oper} {K:Cl->St->Prop} {x:al} {c:gA} (hw:dF ops s o=some true) (hc:dn o=none) (ha:np P (gb ops o) s o=some (x,c)) (h:K (jI (gb ops o) s o c) ((s.kZ c).put o.dst x)):vD P ops o s K:=by
 unfold vD;rw[hw,hc];dsimp only;rw[aaP rfl];exact .inl ⟨x,c,ha,h⟩
def Pq {o:Oper} {K:Cl->St->Prop} (hw:dF ops s o=some false) (h:K .q0 (s.put o.dst (.c .tV))):vD P ops o s K:=by
 unfold vD;rw[hw];exact h
def dE {o:Oper} {R:Rg} {x:al} {c:Cl} (hw:dF ops s o=some true) (hc:dn o=none) (ha:np P (gb ops o) s o=some (x,{})) (hcl:jI (gb ops o) s o {}=c) (h:WR P ops rest (s.put o.dst x) (R.push c)):WR P ops (o::rest) s R:=
 oV (FW hw hc ha (by rw[hcl];exact h))
def lf {o:Oper} {R:Rg} {x:al} {c:gA} {q:Cl} (hw:dF ops s o=some true) (hc:dn o=none) (ha:np P (gb ops o) s o=some (x,c)) (hcl:jI (gb ops o) s o c=q) {s':St} (hs:(s.kZ c).put o.dst x=s') (h:WR P ops rest s' (R.push q)):WR P ops (o::rest) s R:=
 oV (FW hw hc ha (by rw[hcl,hs];exact h))
def Xb {o:Oper} {R:Rg} (hw:dF ops s o=some true) (hc:dn o=none) (hv:yR P s o v) (h:WR P ops rest (s.put o.dst (Bt v)) (R.push .q0)):WR P ops (o::rest) s R:=by
 apply oV;unfold vD;rw[hw,hc];dsimp only;rw[aaP rfl];exact .inr (.inl ⟨v,hv,h⟩)
def qq {o:Oper} {R:Rg} {x:al} {c:gA} {q:Cl} (hw:dF ops s o=some true) (hc:dn o=none) (hv:sF P o s x c fp) (hcl:mG s fp c=q) {s':St} (hs:(s.kZ c).put o.dst x=s') (h:WR P ops rest s' (R.push q)):WR P ops (o::rest) s R:=by
 apply oV;unfold vD;rw[hw,hc];dsimp only;rw[aaP rfl];exact .inr (.inr ⟨x,c,fp,hv,by rw[hcl,hs];exact h⟩)
def Lh {o:Oper} {R:Rg} (hw:dF ops s o=some false) (h:WR P ops rest (s.put o.dst (.c .tV)) (R.push .q0)):WR P ops (o::rest) s R:=
 oV (Pq hw h)
def TF {o:Oper} {R:Rg} {args:List al} {r:al} (hw:dF ops s o=some true) (hc:dn o=some (f,xs)) (ha:(xs.map fun x=>(s.ev x).h)=args) (hok:(args.all (al.ok 0))=true) (hO:Ok P f args [] r []) (h:WR P ops rest (s.put o.dst r) (R.push .q0)):WR P ops (o::rest) s R:=by
 apply oV;unfold vD;rw[hw,hc];dsimp only;rw[aaP rfl];subst ha;exact .inl ⟨r,by simpa using hok,hO,h⟩
def aF {o:Oper} (h:o.guard=none):dF ops s o=some true:=by unfold dF;rw[h]
def pW {o oj:Oper} {want b:Bool} {d:Tmp} (h:o.guard=some (j,want)) (h1:ops[j]? =some oj) (h2:oj.dst=some d) (h3:s.ev (.tmp d)= .c (.f (.v (.bool b)))):dF ops s o=some (b==want):=by
 unfold dF;rw[h];simp[h1,h2,h3]
def Du {o oj:Oper} {want:Bool} {d:Tmp} (h:o.guard=some (j,want)) (h1:ops[j]? =some oj) (h2:oj.dst=some d) (h3:s.ev (.tmp d)= .c .tV):dF ops s o=some false:=by
 unfold dF;rw[h];simp[h1,h2,h3]
end
section
variable {P:Program} {ops:Array Oper} {s s':St} {rest:List Oper} {d:Option Tmp} {ty:TypeId} {pos:String} {af:Array Edge} {g:Option (Nat×Bool)} {R:Rg}
abbrev Wt (ops:Array Oper) (s:St) (o:Oper):Prop:=dF ops s o=some true
abbrev Cl.dm:Cl:={ aZ:=true }
abbrev Cl.st (b:Nat):Cl:={ fp:=[b],wr:=[b] }
abbrev Cl.ZO (b:Nat):Cl:={ fp:=[b],wr:=[b],aZ:=true }
abbrev Cl.Yy (n:Nat):Cl:={ new:=some n }
def Cl.ld (tr:Bool) (b:Nat):Cl:=if tr=true then{ fp:=[b],soft:=true }else{ fr:=[b],soft:=true }
abbrev Cl.ip:Cl:={ soft:=true }
abbrev Cl.tk (b:Nat):Cl:={ fp:=[b],wr:=[b],soft:=true }
def ep {tr:Bool} {o:Oper} (h:ou tr s o=[]) (h':xV tr s o=[]) (hl:wj o.op=false):jI tr s o {}= .q0:=by unfold jI;rw[h,h',hl];rfl
def Ee {tr:Bool} {t:TypeId} {x:Operand} {b:Nat} (hx:s.ev x= .c (.ptr b off)):jI tr s ⟨d,.load t x,ty,pos,af,g⟩ {}= .ld tr b:=by
 show(⟨if tr=true then qZ (s.ev x)else [],if tr=true then []else qZ (s.ev x),[],none,false,true⟩:Cl)=_;rw[hx];cases tr<;>rfl
def LC {tr:Bool} {t:TypeId} {x:Operand} (hx:s.ev x= .c (.ip cs off)):jI tr s ⟨d,.load t x,ty,pos,af,g⟩ {}= .ip:=by
 show(⟨if tr=true then qZ (s.ev x)else [],if tr=true then []else qZ (s.ev x),[],none,false,true⟩:Cl)=_;rw[hx];cases tr<;>rfl
def yO {x:Operand} {v:al} (hx:s.ev x=v) (hv:Flat v=true) (h:WR P ops rest (s.put d v) (R.push .q0)):WR P ops (⟨d,.move x,ty,pos,af,none⟩::rest) s R:=by
 refine dE (aF rfl) rfl ?_ (ep rfl rfl rfl) h;show some (il _ s x)=_;unfold il;rw[hx];split
 ·cases hv
 ·rw[dC hv]
def yL {x:Operand} {v:al} (hx:s.ev x=v) (hv:Flat v=true) (h:WR P ops rest (s.put d v) (R.push .q0)):WR P ops (⟨d,.assign x,ty,pos,af,none⟩::rest) s R:=by
 refine dE (aF rfl) rfl ?_ (ep rfl rfl rfl) h;show some (il true s x)=_;unfold il;rw[hx];split
 ·cases hv
 ·rw[dC hv]
def lF {t:Tmp} {len:Nat} (hx:s.ev (.tmp t)= .c (.bB q sz cs len)) (h:WR P ops rest ((s.put (some t) (.c (ab.aZ (.bB q sz cs len)))).put d (.c (.bB q sz cs len))) (R.push .dm)):WR P ops (⟨d,.assign (.tmp t),ty,pos,af,none⟩::rest) s R:=by
 have BI:s.sl t= .c (.bB q sz cs len):=hx;refine lf (x:= .c (.bB q sz cs len)) (c:={ aZ:=some t }) (aF rfl) rfl ?_ rfl ?_ h
 ·show some (il true s (.tmp t))=_
  unfold il;rw[hx]
 ·simp[St.kZ,St.ir,St.qy,St.qW,St.aZ,BI,al.aZ,St.put]
def oS {t:Tmp} {len:Nat} (hf:gb ops ⟨d,.move (.tmp t),ty,pos,af,none⟩=true) (hx:s.ev (.tmp t)= .c (.bB q sz cs len)) (h:WR P ops rest ((s.put (some t) (.c (ab.aZ (.bB q sz cs len)))).put d (.c (.bB q sz cs len))) (R.push .dm)):WR P ops (⟨d,.move (.tmp t),ty,pos,af,none⟩::rest) s R:=by
 have BI:s.sl t= .c (.bB q sz cs len):=hx;refine lf (x:= .c (.bB q sz cs len)) (c:={ aZ:=some t }) (aF rfl) rfl ?_ rfl ?_ h
 ·show some (il (gb ops _) s (.tmp t))=_
  unfold il;rw[hf,hx]
 ·simp[St.kZ,St.ir,St.qy,St.qW,St.aZ,BI,al.aZ,St.put]
def oR {x:Operand} {len:Nat} (hf:gb ops ⟨d,.move x,ty,pos,af,none⟩=false) (hx:s.ev x= .c (.bB q sz cs len)) (h:WR P ops rest (s.put d (.c (ab.aZ (.bB q sz cs len)))) (R.push .q0)):WR P ops (⟨d,.move x,ty,pos,af,none⟩::rest) s R:=by
 refine dE (aF rfl) rfl ?_ (ep rfl rfl rfl) h;show some (il (gb ops _) s x)=_;unfold il;rw[hf,hx];rfl
def Ph {c x:Operand} {b:Bool} {v u:al} (hc:s.ev c= .c (.f (.v (.bool b)))) (hx:s.ev x=v) (hy:s.ev y=u) (h:WR P ops rest (s.put d (if b=true then v.aZ else u.aZ)) (R.push .q0)):WR P ops (⟨d,.pick c x y,ty,pos,af,none⟩::rest) s R:=by
 refine dE (aF rfl) rfl ?_ (ep rfl rfl rfl) h;show wS s c x y=_;unfold wS;rw[hc];cases b with
 |true=>simp[hx]
 |false=>simp[hy]
def B4 {x:Operand} {b:Nat} (hx:s.ev x= .c (.ptr b off)) (h:WR P ops rest (s.put d (.c (.ptr b off))) (R.push .q0)):WR P ops (⟨d,.nilCheck x,ty,pos,af,none⟩::rest) s R:=by
 refine dE (aF rfl) rfl ?_ (ep rfl rfl rfl) h;show Bx s x=_;unfold Bx;rw[hx]
def FT {x:Operand} (hx:s.ev x= .c (.ip cs off)) (h:WR P ops rest (s.put d (.c (.ip cs off))) (R.push .q0)):WR P ops (⟨d,.nilCheck x,ty,pos,af,none⟩::rest) s R:=by
 refine dE (aF rfl) rfl ?_ (ep rfl rfl rfl) h;show Bx s x=_;unfold Bx;rw[hx]
def kN {t:TypeId} {x:Operand} {f k b oE:Nat} (hf:qH P t f=some k) (hx:s.ev x= .c (.ptr b off)) (ho:off+k=oE) (h:WR P ops rest (s.put d (.c (.ptr b oE))) (R.push .q0)):WR P ops (⟨d,.fieldAddr t x f,ty,pos,af,none⟩::rest) s R:=by
 refine dE (aF rfl) rfl ?_ (ep rfl rfl rfl) h;show fT P s t x f=_;unfold fT;rw[hf,hx,← ho]
def Lb {t:TypeId} {x:Operand} {f k oE:Nat} (hf:qH P t f=some k) (hx:s.ev x= .c (.ip cs off)) (ho:off+k=oE) (h:WR P ops rest (s.put d (.c (.ip cs oE))) (R.push .q0)):WR P ops (⟨d,.fieldAddr t x f,ty,pos,af,none⟩::rest) s R:=by
 refine dE (aF rfl) rfl ?_ (ep rfl rfl rfl) h;show fT P s t x f=_;unfold fT;rw[hf,hx,← ho]
def eo {t:TypeId} {x:Operand} {n b:Nat} {cells:List ab} {y:ab} (ht:rW P t=some (false,n)) (hx:s.ev x= .c (.ptr b off)) (hb:s.H[b]? =some (some cells)) (hy:cells[off]? =some y) (hf:y.flat=true) (h:WR P ops rest (s.put d (.c y)) (R.push (.ld (gb ops ⟨d,.load t x,ty,pos,af,none⟩) b))):WR P ops (⟨d,.load t x,ty,pos,af,none⟩::rest) s R:=by
 refine dE (aF rfl) rfl ?_ (Ee hx) h;show fY P _ s t x=_;unfold fY;rw[ht,hx];dsimp only;rw[hb];dsimp only;rw[hy];dsimp only;split
 ·cases hf
 ·cases hf
 ·rw[ab.dC hf]
def nj {t:TypeId} {x:Operand} {n b:Nat} {cells:List ab} {cs:List ab} (ht:rW P t=some (true,n)) (hx:s.ev x= .c (.ptr b off)) (hb:s.H[b]? =some (some cells)) (hy:off+n<=cells.length/\jo cells=true) (hc:((cells.drop off).take n).map ab.aZ=cs) (h:WR P ops rest (s.put d (.agg cs)) (R.push (.ld (gb ops ⟨d,.load t x,ty,pos,af,none⟩) b))):WR P ops (⟨d,.load t x,ty,pos,af,none⟩::rest) s R:=by
 refine dE (aF rfl) rfl ?_ (Ee hx) h;show fY P _ s t x=_;unfold fY;rw[ht,hx];dsimp only;rw[hb];dsimp only;rw[aaP hy,hc]
def yN {t:TypeId} {x:Operand} {n:Nat} {y:au} (ht:rW P t=some (false,n)) (hx:s.ev x= .c (.ip cs off)) (hy:cs[off]? =some y) (h:WR P ops rest (s.put d (.c (.f y))) (R.push .ip)):WR P ops (⟨d,.load t x,ty,pos,af,none⟩::rest) s R:=by
 refine dE (aF rfl) rfl ?_ (LC hx) h;show fY P _ s t x=_;unfold fY;rw[ht,hx];dsimp only;rw[hy]
def Jk {t:TypeId} {x:Operand} {n:Nat} {ys:List ab} (ht:rW P t=some (true,n)) (hx:s.ev x= .c (.ip cs off)) (hy:off+n<=cs.length) (hc:((cs.drop off).take n).map ab.f=ys) (h:WR P ops rest (s.put d (.agg ys)) (R.push .ip)):WR P ops (⟨d,.load t x,ty,pos,af,none⟩::rest) s R:=by
 refine dE (aF rfl) rfl ?_ (LC hx) h;show fY P _ s t x=_;unfold fY;rw[ht,hx];dsimp only;rw[aaP hy,hc]
def Lz {b:Nat} {cs:List ab}:s.kZ { eu:=some (b,cs) }=s.lY (fN s.H b cs):=rfl
def Ed {cs:List ab}:s.kZ { new:=some cs }=s.lY (s.H++[some cs]):=rfl
def rC {t:TypeId} {x:Operand} {n b:Nat} {cells ds:List ab} {v:al} {H':HB} (ht:rW P t=some (q,n)) (hx:s.ev x= .c (.ptr b off)) (hb:s.H[b]? =some (some cells)) (hy:s.ev y=v) (hv:Flat v=true) (hd:v.cells=some ds) (hl:ds.length=n/\off+n<=cells.length/\jo cells=true) (hH:fN s.H b (setAt cells off ds)=H')
  (h:WR P ops rest (s.lY H') (R.push (.st b))):WR P ops (⟨none,.store t x y,ty,pos,af,none⟩::rest) s R:=by
 refine lf (x:= .c .any) (c:={ eu:=some (b,setAt cells off ds) }) (aF rfl) rfl ?_ (by unfold jI;show(⟨qZ (s.ev x),_,_,_,_,_⟩:Cl)=_;rw[hx];rfl) (s':=s.lY H') ?_ h
 ·show nK P s t x y=_
  unfold nK;rw[ht,hx];dsimp only;rw[hb];dsimp only;have hh:holds s y=none:=by
   unfold holds;split
   ·rw[hy]
    split
    ·cases hv
    ·rfl
   ·rfl
  rw[hh];dsimp only;rw[hy,dC hv,hd];dsimp only;rw[aaP hl]
 ·rw[Lz,hH];rfl
def ud {t:TypeId} {x i:Operand} {n:Int} {z len:Nat} {k:IntKind} {v:al} (hz:bK P t=some z) (hx:s.ev x=v) (hv:v.aZ= .c (.f (.row cs len))) (hi:s.ev i= .c (.f (.v (.int k n)))) (h0:0<=n) (h1:n<len) (ho:n.toNat*z=off)
  (h:WR P ops rest (s.put d (.c (.ip cs off))) (R.push .q0)):WR P ops (⟨d,.indexAddr t x i,ty,pos,af,none⟩::rest) s R:=by
 refine dE (aF rfl) rfl ?_ (ep rfl rfl rfl) h;show eW P s t x i=_;unfold eW;rw[hi];simp only[al.ix];rw[aaP h0,hz,hx,hv];simp only[aaP h1,ho]
def uc {t:TypeId} {x i:Operand} {n:Int} {z b len cap oE:Nat} {k:IntKind} (hz:bK P t=some z) (hx:s.ev x= .c (.arr b off len cap)) (hi:s.ev i= .c (.f (.v (.int k n)))) (h0:0<=n) (h1:n<len) (ho:off+n.toNat*z=oE)
  (h:WR P ops rest (s.put d (.c (.ptr b oE))) (R.push .q0)):WR P ops (⟨d,.indexAddr t x i,ty,pos,af,none⟩::rest) s R:=by
 refine dE (aF rfl) rfl ?_ (ep rfl rfl rfl) h;show eW P s t x i=_;unfold eW;rw[hi];simp only[al.ix];rw[aaP h0,hz,hx];simp only[al.aZ,ab.aZ,aaP h1,ho]
def Lc {t:TypeId} {x:Operand} {f:Nat} {q:Option (Bool×Nat)} {cs:List ab} {r:al} (hf:Cv P t f=some (off,q)) (hx:s.ev x= .agg cs) (hr:wR cs off q=some r) (h:WR P ops rest (s.put d r) (R.push .q0)):WR P ops (⟨d,.field t x f,ty,pos,af,none⟩::rest) s R:=by
 refine dE (aF rfl) rfl ?_ (ep rfl rfl rfl) h;show qu P s t x f=_;unfold qu;rw[hf,hx];dsimp only;rw[hr]
def B3 {x:Operand} {i:Nat} {ts:List bJ} {y:bJ} (hx:s.ev x= .dt ts) (hy:ts[i]? =some y) (h:WR P ops rest (s.put d y.a) (R.push .q0)):WR P ops (⟨d,.extract x i,ty,pos,af,none⟩::rest) s R:=by
 refine dE (aF rfl) rfl ?_ (ep rfl rfl rfl) h;show kP s x i=_;unfold kP;rw[hx];dsimp only;rw[hy]
def G2 (op:BinOp) (k:IntKind) (a b:Int):Option Value:=
 match op with
 | .add=>some (.int k (k.wrap (a+b)))
 | .sub=>some (.int k (k.wrap (a-b)))
 | .mul=>some (.int k (k.wrap (a*b)))
 | .eql=>some (.bool (decide (a=b)))
 | .neq=>some (.bool (!decide (a=b)))
 | .lss=>some (.bool (decide (a<b)))
 | .leq=>some (.bool (decide (a<=b)))
 | .gtr=>some (.bool (decide (b<a)))
 | .geq=>some (.bool (decide (b<=a)))
 | .quo=>if b=0 then none else some (.int k (k.wrap (a.tdiv b)))
 | .rem=>if b=0 then none else some (.int k (a.tmod b))
 |_=>none
def fh {x:Operand} (h:s.ev x= .c (.f (.v v))):s.env x=v:=by unfold St.env;rw[h];rfl
def PK {t u:TypeId} {x:Operand} {k:IntKind} {a b:Int} {tr:Bool} (hx:s.ev x= .c (.f (.v (.int k a)))) (hy:s.ev y= .c (.f (.v (.int k b)))) (hv:G2 op k a b=some v):
  np P tr s ⟨d,.binOp op t x y u,ty,pos,af,g⟩=some (Bt v,{}):=by
 show dz P s _=_;unfold dz;have h1:(([x,y]:List Operand).all fun x=>(s.ev x).jl.isSome)=true:=by simp[hx,hy,al.jl,ab.jl,au.jl]
 have h2:((Oper.mk d (.binOp op t x y u) ty pos af g).op.operands.toList.all fun x=>(s.ev x).jl.isSome)=true:=h1;rw[h2];simp only[Ha,afv,aeE,if_true];have h3:b9 P (execOp s.env ⟨d,.binOp op t x y u,ty,pos,af,g⟩)=some (.value v):=by
  show b9 P (do let r ← (do eqGuard op t x y (s.env x) (s.env y);binOp op t (s.env x) (s.env y));pure (acU r))=_;rw[fh hx,fh hy];have hg:eqGuard op t x y (.int k a) (.int k b)=pure ():=by cases op<;>rfl
  rw[hg];cases op<;>simp only[G2]at hv<;>first|(cases hv;done)|skip
  case quo=>
   by_cases hb:b=0
   ·rw[aaP hb]at hv;cases hv
   ·rw[aaO hb]at hv;cases hv
    simp only[binOp,ne_eq,not_true_eq_false,if_false,afN,hb];rfl
  case rem=>
   by_cases hb:b=0
   ·rw[aaP hb]at hv;cases hv
   ·rw[aaO hb]at hv;cases hv
    simp only[binOp,ne_eq,not_true_eq_false,if_false,afN,hb];rfl
  all_goals(cases hv;simp only[binOp,ne_eq,not_true_eq_false,if_false];rfl)
 rw[h3]
def UG {k:IntKind} {a b:Int} (hv:G2 op k a b=some v):Bt v= .c (.f (.v v)):=by
 cases op<;>simp only[G2]at hv<;>first|(cases hv;done)|(cases hv;rfl)|skip
 all_goals(split at hv<;>first|(cases hv;done)|(cases hv;rfl))
def kf {t u:TypeId} {x:Operand} {k:IntKind} {a b:Int} (hx:s.ev x= .c (.f (.v (.int k a)))) (hy:s.ev y= .c (.f (.v (.int k b)))) (hv:G2 op k a b=some v) (h:WR P ops rest (s.put d (.c (.f (.v v)))) (R.push .q0)):WR P ops (⟨d,.binOp op t x y u,ty,pos,af,none⟩::rest) s R:=
 dE (aF rfl) rfl (by rw[← UG hv];exact PK hx hy hv) (ep rfl rfl rfl) h
def wrap64 {n:Int} (h1: -9223372036854775808<=n) (h2:n<=9223372036854775807):adG.wrap n=n:=by
 simp[afP];simp[afQ,afR];omega
def ZV {t u:TypeId} {x:Operand} {a b:Int} (hx:s.ev x= .c (.f (.v (.int .i64 a)))) (hy:s.ev y= .c (.f (.v (.int .i64 b)))) (h1: -9223372036854775808<=a+b) (h2:a+b<=9223372036854775807) (h:WR P ops rest (s.put d (.c (.f (.v (.int .i64 (a+b)))))) (R.push .q0)):WR P ops (⟨d,.binOp .add t x y u,ty,pos,af,none⟩::rest) s R:=
 kf hx hy (by show some (aef .i64 (adG.wrap (a+b)))=_;rw[wrap64 h1 h2]) h
def Z4 {t u:TypeId} {x:Operand} {a b:Int} (hx:s.ev x= .c (.f (.v (.int .i64 a)))) (hy:s.ev y= .c (.f (.v (.int .i64 b)))) (h1: -9223372036854775808<=a-b) (h2:a-b<=9223372036854775807) (h:WR P ops rest (s.put d (.c (.f (.v (.int .i64 (a-b)))))) (R.push .q0)):WR P ops (⟨d,.binOp .sub t x y u,ty,pos,af,none⟩::rest) s R:=
 kf hx hy (by show some (aef .i64 (adG.wrap (a-b)))=_;rw[wrap64 h1 h2]) h
def ZZ {t u:TypeId} {x:Operand} {a b:Int} (hx:s.ev x= .c (.f (.v (.int .i64 a)))) (hy:s.ev y= .c (.f (.v (.int .i64 b)))) (h1: -9223372036854775808<=a*b) (h2:a*b<=9223372036854775807) (h:WR P ops rest (s.put d (.c (.f (.v (.int .i64 (a*b)))))) (R.push .q0)):WR P ops (⟨d,.binOp .mul t x y u,ty,pos,af,none⟩::rest) s R:=
 kf hx hy (by show some (aef .i64 (adG.wrap (a*b)))=_;rw[wrap64 h1 h2]) h
def SO {a b:Int} (h0:0<=a):a.tdiv b=a / b:=Int.tdiv_eq_ediv_of_nonneg h0
def Z0 {t u:TypeId} {x:Operand} {a b:Int} (hx:s.ev x= .c (.f (.v (.int .i64 a)))) (hy:s.ev y= .c (.f (.v (.int .i64 b)))) (h0:0<=a) (hb:0<b) (h2:a<=9223372036854775807) (h:WR P ops rest (s.put d (.c (.f (.v (.int .i64 (a / b)))))) (R.push .q0)):WR P ops (⟨d,.binOp .quo t x y u,ty,pos,af,none⟩::rest) s R:=
 kf hx hy (by
  show(if b=0 then none else some (aef .i64 (adG.wrap (a.tdiv b))))=_;have k1:0<=a / b:=Int.ediv_nonneg h0 (by omega);have k2:a / b<=a:=Int.ediv_le_self b h0
  rw[aaO (by omega),SO h0,wrap64 (by omega) (by omega)]) h
def Z1 {t u:TypeId} {x:Operand} {a b:Int} (hx:s.ev x= .c (.f (.v (.int .i64 a)))) (hy:s.ev y= .c (.f (.v (.int .i64 b)))) (h0:0<=a) (hb:0<b) (h:WR P ops rest (s.put d (.c (.f (.v (.int .i64 (a%b)))))) (R.push .q0)):WR P ops (⟨d,.binOp .rem t x y u,ty,pos,af,none⟩::rest) s R:=
 kf hx hy (by
  show(if b=0 then none else some (aef .i64 (a.tmod b)))=_
  rw[aaO (by omega),Int.tmod_eq_emod_of_nonneg h0]) h
end
section
variable {P:Program}
def ew {α β:Type} (f:α->Sem β): ∀ (m:Sem α),b9 P (m>>= f)=(b9 P m).bind fun a=>b9 P (f a)
 | .pure a=>rfl
 | .program k=>by show b9 P ((k P).bind f)=_;exact ew f (k P)
 | .mark _ k=>by show b9 P (k.bind f)=_;exact ew f k
 | .load .. =>rfl
 | .store .. =>rfl
 | .new .. =>rfl
 | .shape .. =>rfl
 | .freeze .. =>rfl
 | .frozen .. =>rfl
 | .getObj .. =>rfl
 | .setObj .. =>rfl
 | .choose .. =>rfl
 | .sys .. =>rfl
 | .halt .. =>rfl
def kK (a:α):b9 P (pure a:Sem α)=some a:=rfl
def KA {β:Type} (f:α->β) (m:Sem α):b9 P (Functor.map f m)=(b9 P m).map f:=by
 show b9 P (m>>= fun a=>pure (f a))=_;rw[ew];cases b9 P m<;>rfl
def mY {t:TypeId} {d:TypeDesc} (h:P.underlying t=some d):b9 P (underlying t)=some d:=by
 show b9 P (match P.underlying t with|some d=>pure d|none=>stuck "no such type")=_
 rw[h];rfl
variable {ops:Array Oper} {s s':St} {rest:List Oper} {d:Option Tmp} {ty:TypeId} {pos:String} {af:Array Edge} {g:Option (Nat×Bool)} {R:Rg}
def fL {o:Oper} (hs:Ha o.op=false) (h1:(o.op.operands.toList.all fun x=>(s.ev x).jl.isSome)=true) (h2:b9 P (execOp s.env o)=some (.value v)):dz P s o=some (Bt v,{}):=by
 unfold dz;rw[h1,hs];simp[afv,aeE,if_true];rw[h2]
def dK {x:Operand} (h:s.ev x= .c (.f (.v v))):(s.ev x).jl.isSome=true:=by rw[h];rfl
def H9 {m:Sem Value} (h:b9 P m=some v):b9 P (do pure (acU (← m)))=some (.value v):=by
 rw[ew,h];rfl
def YY (op:BinOp) (a b:ByteArray):Option Value:=
 match op with
 | .add=>if((a.size+b.size:Nat):Int)>9223372036854775807 then none else some (.string (a++b))
 | .eql=>some (.bool (a.toList==b.toList))
 | .neq=>some (.bool !(a.toList==b.toList))
 | .lss=>some (.bool (afI a.toList b.toList))
 |_=>none
def Pk {t u:TypeId} {x:Operand} {a b:ByteArray} (hx:s.ev x= .c (.f (.v (.string a)))) (hy:s.ev y= .c (.f (.v (.string b)))) (hv:YY op a b=some v) (h:WR P ops rest (s.put d (.c (.f (.v v)))) (R.push .q0)):WR P ops (⟨d,.binOp op t x y u,ty,pos,af,none⟩::rest) s R:=by
 have hof:Bt v= .c (.f (.v v)):=by
  cases op<;>simp only[YY]at hv<;>first|(cases hv;done)|(cases hv;rfl)|skip
  all_goals(split at hv<;>first|(cases hv;done)|(cases hv;rfl))
 refine dE (aF rfl) rfl ?_ (ep rfl rfl rfl) h;rw[← hof];show dz P s _=_;refine fL rfl ?_ ?_
 ·show([x,y].all fun x=>(s.ev x).jl.isSome)=true
  simp[dK hx,dK hy]
 ·show b9 P (do pure (acU (← (do eqGuard op t x y (s.env x) (s.env y);binOp op t (s.env x) (s.env y)))))=_
  rw[fh hx,fh hy];have hg:eqGuard op t x y (.string a) (.string b)=pure ():=by cases op<;>rfl
  rw[hg];refine H9 ?_;rw[ew,kK];show b9 P (binOp op t (.string a) (.string b))=_;cases op<;>simp only[YY]at hv<;>first|(cases hv;done)|skip
  case add=>
   split at hv
   ·cases hv
   next hle=>
    cases hv;show b9 P (afK .add a b)=_;unfold afK;dsimp only;rw[aaO (show ¬ ((a.size+b.size:Nat):Int)>adG.max from hle)];rfl
  all_goals(cases hv;rfl)
def M7 {t:TypeId} {x:Operand} {b:ByteArray} (ht:P.underlying t=some .string) (hx:s.ev x= .c (.f (.v (.string b)))) (h:WR P ops rest (s.put d (.c (.f (.v (.int .i64 b.size))))) (R.push .q0)):
  WR P ops (⟨d,.call { callee:= .builtin .len,args:= #[x],argTypes:= #[t] },ty,pos,af,none⟩::rest) s R:=by
 refine dE (aF rfl) rfl ?_ (ep rfl rfl rfl) h;show td P s _ t x=_;unfold td;have he:bK P t=none:=by unfold bK;rw[ht]
 rw[he];refine(fL (v:= .int .i64 b.size) rfl ?_ ?_).trans rfl
 ·show([x].all fun x=>(s.ev x).jl.isSome)=true
  simp[dK hx]
 ·simp only[execOp,resolve,adJ,abh,aed,ew,kK,acM,invoke,builtin,fh hx]
  show(b9 P (underlying t>>= _)).bind _=_;rw[ew,mY ht];rfl
def M6 {t:TypeId} {x:Operand} {v:al} {z:Nat} {len:Nat} (hz:bK P t=some z) (hx:s.ev x=v) (hv:v.aZ= .c (.f (.row cs len))) (h:WR P ops rest (s.put d (.c (.f (.v (.int .i64 len))))) (R.push .q0)):
  WR P ops (⟨d,.call { callee:= .builtin .len,args:= #[x],argTypes:= #[t] },ty,pos,af,none⟩::rest) s R:=by
 refine dE (aF rfl) rfl ?_ (ep rfl rfl rfl) h;show td P s _ t x=_;unfold td;rw[hz,hx,hv]
def M4 {t:TypeId} {x:Operand} {z b len cap:Nat} (hz:bK P t=some z) (hx:s.ev x= .c (.arr b off len cap)) (h:WR P ops rest (s.put d (.c (.f (.v (.int .i64 len))))) (R.push .q0)):
  WR P ops (⟨d,.call { callee:= .builtin .len,args:= #[x],argTypes:= #[t] },ty,pos,af,none⟩::rest) s R:=by
 refine dE (aF rfl) rfl ?_ (ep rfl rfl rfl) h;show td P s _ t x=_;unfold td;rw[hz,hx];rfl
def M5 {t e:TypeId} {x:Operand} (ht:P.underlying t=some (.slice e)) (hx:s.ev x= .c (.f .aD)) (h:WR P ops rest (s.put d (.c (.f (.v (.int .i64 0))))) (R.push .q0)):
  WR P ops (⟨d,.call { callee:= .builtin .len,args:= #[x],argTypes:= #[t] },ty,pos,af,none⟩::rest) s R:=by
 refine dE (aF rfl) rfl ?_ (ep rfl rfl rfl) h;show td P s _ t x=_;have hp:dz P s ⟨d,.call { callee:= .builtin .len,args:= #[x],argTypes:= #[t] },ty,pos,af,none⟩=some (Bt (.int .i64 0),{}):=by
  refine fL rfl ?_ ?_
  ·show([x].all fun x=>(s.ev x).jl.isSome)=true
   simp[hx,al.jl,ab.jl,au.jl]
  ·have he:s.env x= .slice none 0 0:=by unfold St.env;rw[hx];rfl
   simp only[execOp,resolve,adJ,abh,aed,ew,kK,acM,invoke,builtin,he];show(b9 P (underlying t>>= _)).bind _=_;rw[ew,mY ht];rfl
 unfold td;rw[hx];split
 ·rename_i heq;cases heq
 ·rename_i heq;cases heq
 ·exact hp
def FR {t:TypeId} {x i:Operand} {b:ByteArray} {k:IntKind} {n:Int} {c:UInt8} (ht:P.underlying t=some .string) (hx:s.ev x= .c (.f (.v (.string b)))) (hi:s.ev i= .c (.f (.v (.int k n)))) (h0:0<=n) (hc:b[n.toNat]? =some c) (h:WR P ops rest (s.put d (.c (.f (.v (.int .u8 c.toNat))))) (R.push .q0)):
  WR P ops (⟨d,.index t x i,ty,pos,af,none⟩::rest) s R:=by
 refine dE (aF rfl) rfl ?_ (ep rfl rfl rfl) h;show oZ P s _ t x i=_;unfold oZ;have he:LJ P t=none:=by unfold LJ;rw[ht]
 rw[he];refine(fL (v:= .int .u8 c.toNat) rfl ?_ ?_).trans rfl
 ·show([x,i].all fun x=>(s.ev x).jl.isSome)=true
  simp[dK hx,dK hi]
 ·show b9 P (do pure (acU (← afB t (s.env x) (s.env i))))=_
  rw[fh hx,fh hi];apply H9;unfold afB;show b9 P (underlying t>>= _)=_;rw[ew,mY ht];simp[acM,aaP h0,hc];rfl
def DC {t:TypeId} {x i:Operand} {b:ByteArray} {k:IntKind} {n:Int} (ht:P.underlying t=some .string) (hx:s.ev x= .c (.f (.v (.string b)))) (hi:s.ev i= .c (.f (.v (.int k n)))) (h0:0<=n) (h1:n<b.size) (h:WR P ops rest (s.put d (.c (.f (.v (.int .u8 (b.data.getD n.toNat 0).toNat))))) (R.push .q0)):
  WR P ops (⟨d,.index t x i,ty,pos,af,none⟩::rest) s R:=by
 have hlt:n.toNat<b.size:=by omega
 refine FR ht hx hi h0 (c:=b.data.getD n.toNat 0) ?_ h;have hlt':n.toNat<b.data.size:=hlt;rw[getElem?_pos b n.toNat hlt];simp only[adF,hlt',dite_true];rfl
def vc {k:IntKind} {n:Int} {y:Nat} {c:BoundsCode} (h0:0<=n) (h1:n<=y):b9 P (afl (.int k n) y c)=some n.toNat:=by
 unfold afl;simp[asIntOf,ew,kK,acM];rw[aaP ⟨h0,h1⟩];rfl
def nl {t:TypeId} {x:Operand} {lo hi:Option Operand} {b:ByteArray} {l r:Int} (ht:P.underlying t=some .string) (hx:s.ev x= .c (.f (.v (.string b)))) (hl:jg s lo 0=some l) (hh:jg s hi b.size=some r) (h0:0<=l) (h1:l<=r) (h2:r<=b.size) (h:WR P ops rest (s.put d (.c (.f (.v (.string (b.extract l.toNat r.toNat)))))) (R.push .q0)):
  WR P ops (⟨d,.slice t x lo hi none,ty,pos,af,none⟩::rest) s R:=by
 refine dE (aF rfl) rfl ?_ (ep rfl rfl rfl) h;show fD P s _ t x lo hi none=_;unfold fD;have he:bK P t=none:=by unfold bK;rw[ht]
 rw[he];have key: ∀ (y:Option Operand) (n m:Int),jg s y m=some n->(y=none/\n=m)\/ ∃ o k,y=some o/\s.ev o= .c (.f (.v (.int k n))):=by
  intro y n m hb;cases y with
  |none=>injection hb with hb;exact .inl ⟨rfl,hb.symm⟩
  |some o=>
   simp[jg]at hb;unfold al.ix at hb;split at hb
   ·rename_i k m heq;cases hb;exact .inr ⟨o,k,rfl,heq⟩
   ·cases hb
 refine(fL (v:= .string (b.extract l.toNat r.toNat)) rfl ?_ ?_).trans rfl
 ·show((#[x]++lo.toArray++hi.toArray++ #[]).toList.all fun x=>(s.ev x).jl.isSome)=true
  rcases key lo l 0 hl with ⟨rfl,_⟩|⟨o1,k1,rfl,e1⟩<;>rcases key hi r _ hh with ⟨rfl,_⟩|⟨o2,k2,rfl,e2⟩
  ·simp[dK hx]
  ·simp[dK hx,dK e2]
  ·simp[dK hx,dK e1]
  ·simp[dK hx,dK e1,dK e2]
 ·show b9 P (do pure (acU (← afw t (s.env x) (lo.map s.env) (hi.map s.env) (none.map s.env))))=_
  rw[fh hx];apply H9;unfold afw;rw[ew,mY ht];show b9 P (afC t (.string b) (lo.map s.env) (hi.map s.env) none)=_;unfold afC;rw[ew,mY ht];show b9 P (aeb false b.size b.size (lo.map s.env) (hi.map s.env) none>>= _)=_;have hb:b9 P (aeb false b.size b.size (lo.map s.env) (hi.map s.env) none)=some (l.toNat,r.toNat,b.size):=by
   unfold aeb;rcases key lo l 0 hl with ⟨rfl,e1⟩|⟨o1,k1,rfl,e1⟩<;>rcases key hi r _ hh with ⟨rfl,e2⟩|⟨o2,k2,rfl,e2⟩
   ·subst e1;subst e2
    simp[ew,kK]
   ·subst e1
    have q1:r<=(b.size:Int):=h2;simp[ew,kK,KA,fh e2,vc (by omega) q1]
   ·subst e2
    have q1:l<=(b.size:Int):=h1;simp[ew,kK,KA,fh e1,vc h0 q1]
   ·have q1:r<=(b.size:Int):=h2
    have q2:l<=(r.toNat:Int):=by omega
    simp[ew,kK,KA,fh e1,fh e2,vc (by omega) q1,vc h0 q2]
  rw[ew,hb];rfl
def yM {t u:TypeId} {du:TypeDesc} {x:Operand} {k j:IntKind} {n:Int} (ht:P.underlying t=some du) (hu:P.underlying u=some (.int j)) (hx:s.ev x= .c (.f (.v (.int k n)))) (h:WR P ops rest (s.put d (.c (.f (.v (.int j (j.wrap n)))))) (R.push .q0)):WR P ops (⟨d,.convert t u x,ty,pos,af,none⟩::rest) s R:=by
 refine dE (aF rfl) rfl ?_ (ep rfl rfl rfl) h;show ik P s _ t u x=_;unfold ik;rw[hx];refine(fL (v:= .int j (j.wrap n)) rfl ?_ ?_).trans rfl
 ·show([x].all fun x=>(s.ev x).jl.isSome)=true
  simp[dK hx]
 ·show b9 P (do pure (acU (← convert t u (s.env x))))=_
  rw[fh hx];apply H9;unfold convert;rw[ew,mY ht];simp[acM];rw[ew,mY hu];rfl
def Pf {t u:TypeId} {du:TypeDesc} {x:Operand} {k:IntKind} {n:Int} (ht:P.underlying t=some du) (hu:P.underlying u=some (.int .i64)) (hx:s.ev x= .c (.f (.v (.int k n)))) (h1: -9223372036854775808<=n) (h2:n<=9223372036854775807) (h:WR P ops rest (s.put d (.c (.f (.v (.int .i64 n))))) (R.push .q0)):WR P ops (⟨d,.convert t u x,ty,pos,af,none⟩::rest) s R:=
 yM ht hu hx (by rw[wrap64 h1 h2];exact h)
def iun (op:UnOp):Value->Option Value
 | .int k n=>match op with
  | .neg=>some (.int k (k.wrap (0-n)))
  |_=>none
 | .bool b=>match op with
  | .not=>some (.bool !b)
  |_=>none
 |_=>none
def W9 {op:UnOp} {t:TypeId} {x:Operand} {a:Value} (hx:s.ev x= .c (.f (.v a))) (hv:iun op a=some v) (h:WR P ops rest (s.put d (.c (.f (.v v)))) (R.push .q0)):WR P ops (⟨d,.unOp op t x,ty,pos,af,none⟩::rest) s R:=by
 have hof:Bt v= .c (.f (.v v)):=by
  cases a<;>simp only[iun]at hv<;>first|(cases hv;done)|skip
  all_goals(cases op<;>simp only at hv<;>first|(cases hv;done)|skip)
  all_goals(cases hv;rfl)
 refine dE (aF rfl) rfl ?_ (ep rfl rfl rfl) h;rw[← hof];show dz P s _=_;refine fL rfl ?_ ?_
 ·show([x].all fun x=>(s.ev x).jl.isSome)=true
  simp[dK hx]
 ·show b9 P (do pure (acU (← Op.unary op (s.env x))))=_
  rw[fh hx];refine H9 ?_;cases a<;>simp only[iun]at hv<;>first|(cases hv;done)|skip
  all_goals(cases op<;>simp only at hv<;>first|(cases hv;done)|skip)
  all_goals(cases hv;rfl)
def Z2 {t u:TypeId} {x:Operand} {k j:IntKind} {a b:Int} (hx:s.ev x= .c (.f (.v (.int k a)))) (hy:s.ev y= .c (.f (.v (.int j b)))) (hb:0<=b) (h:WR P ops rest (s.put d (.c (.f (.v (.int k (k.wrap (a*2^(min b.toNat k.bits)))))))) (R.push .q0)):WR P ops (⟨d,.binOp .shl t x y u,ty,pos,af,none⟩::rest) s R:=by
 refine dE (aF rfl) rfl ?_ (ep rfl rfl rfl) h;show dz P s _=_;refine(fL (v:= .int k (k.wrap (a*2^(min b.toNat k.bits)))) rfl ?_ ?_).trans rfl
 ·show([x,y].all fun x=>(s.ev x).jl.isSome)=true
  simp[dK hx,dK hy]
 ·show b9 P (do pure (acU (← (do eqGuard .shl t x y (s.env x) (s.env y);binOp .shl t (s.env x) (s.env y)))))=_
  rw[fh hx,fh hy];apply H9;show b9 P (afg .shl k a j b)=_;unfold afg;rw[aaO (by omega)];rfl
def Z3 {t u:TypeId} {x:Operand} {k j:IntKind} {a b:Int} (hx:s.ev x= .c (.f (.v (.int k a)))) (hy:s.ev y= .c (.f (.v (.int j b)))) (hb:0<=b) (h:WR P ops rest (s.put d (.c (.f (.v (.int k (a.fdiv (2^(min b.toNat k.bits)))))))) (R.push .q0)):WR P ops (⟨d,.binOp .shr t x y u,ty,pos,af,none⟩::rest) s R:=by
 refine dE (aF rfl) rfl ?_ (ep rfl rfl rfl) h;show dz P s _=_;refine(fL (v:= .int k (a.fdiv (2^(min b.toNat k.bits)))) rfl ?_ ?_).trans rfl
 ·show([x,y].all fun x=>(s.ev x).jl.isSome)=true
  simp[dK hx,dK hy]
 ·show b9 P (do pure (acU (← (do eqGuard .shr t x y (s.env x) (s.env y);binOp .shr t (s.env x) (s.env y)))))=_
  rw[fh hx,fh hy];apply H9;show b9 P (afg .shr k a j b)=_;unfold afg;rw[aaO (by omega)];rfl
def Xi (op:BinOp) (k:IntKind) (a b:Int):Option Value:=
 match op with
 | .and=>some (.int k (k.wrap ((acA k.bits a&&& acA k.bits b).toNat)))
 | .or=>some (.int k (k.wrap ((acA k.bits a|||acA k.bits b).toNat)))
 | .xor=>some (.int k (k.wrap ((acA k.bits a^^^acA k.bits b).toNat)))
 |_=>none
def W5 {t u:TypeId} {x:Operand} {k:IntKind} {a b:Int} (hx:s.ev x= .c (.f (.v (.int k a)))) (hy:s.ev y= .c (.f (.v (.int k b)))) (hv:Xi op k a b=some v) (h:WR P ops rest (s.put d (.c (.f (.v v)))) (R.push .q0)):WR P ops (⟨d,.binOp op t x y u,ty,pos,af,none⟩::rest) s R:=by
 have hof:Bt v= .c (.f (.v v)):=by
  cases op<;>simp[Xi]at hv<;>first|(cases hv;done)|(cases hv;rfl)
 refine dE (aF rfl) rfl ?_ (ep rfl rfl rfl) h;rw[← hof];show dz P s _=_;refine fL rfl ?_ ?_
 ·show([x,y].all fun x=>(s.ev x).jl.isSome)=true
  simp[dK hx,dK hy]
 ·show b9 P (do pure (acU (← (do eqGuard op t x y (s.env x) (s.env y);binOp op t (s.env x) (s.env y)))))=_
  rw[fh hx,fh hy];refine H9 ?_;cases op<;>simp[Xi]at hv<;>first|(cases hv;done)|skip
  all_goals(cases hv;simp[binOp,ne_eq,not_true_eq_false,if_false];rfl)
end
section
variable {P:Program} {ops:Array Oper} {s s':St} {rest:List Oper} {d:Option Tmp} {ty:TypeId} {pos:String} {af:Array Edge} {g:Option (Nat×Bool)} {R:Rg}
def La {t:TypeId} {cs:List ab} {n:Nat} {H':HB} (hz:vC P t=some cs) (hn:s.H.length=n) (hH:s.H++[some cs]=H') (h:WR P ops rest ((s.lY H').put d (.c (.ptr n 0))) (R.push (.Yy n))):WR P ops (⟨d,.alloc t,ty,pos,af,none⟩::rest) s R:=by
 refine lf (x:= .c (.ptr n 0)) (c:={ new:=some cs }) (aF rfl) rfl ?_ (by rw[← hn];rfl) ?_ h
 ·show oY P s t=_
  unfold oY;rw[hz,hn]
 ·rw[Ed,hH]
def ZW {t:TypeId} {x:Operand} {v:al} {cs:List ab} {n:Nat} {H':HB} (hx:s.ev x=v) (hc:v.aZ.cells=some cs) (hn:s.H.length=n) (hH:s.H++[some cs]=H') (h:WR P ops rest ((s.lY H').put d (.c (.ptr n 0))) (R.push (.Yy n))):WR P ops (⟨d,.box t x,ty,pos,af,none⟩::rest) s R:=by
 refine lf (x:= .c (.ptr n 0)) (c:={ new:=some cs }) (aF rfl) rfl ?_ (by rw[← hn];rfl) ?_ h
 ·show DO s x=_
  unfold DO;rw[hx,hc,hn]
 ·rw[Ed,hH]
def W7 {t:TypeId} {l c:Operand} {by_ n:Nat} {m:Int} {k j:IntKind} {zs cs:List ab} {H':HB} (hi:eS P t=some (sz,by_,zs)) (hl:s.ev l= .c (.f (.v (.int k m)))) (hc:s.ev c= .c (.f (.v (.int j m)))) (h0:0<=m) (h1:m<=4611686018427387904) (h2:(by_:Int)*m<=281474976710656) (hn:s.H.length=n) (hz:dc zs m.toNat=cs) (hH:s.H++[some cs]=H')
  (h:WR P ops rest ((s.lY H').put d (.c (.arr n 0 m.toNat m.toNat))) (R.push (.Yy n))):WR P ops (⟨d,.makeSlice t l c,ty,pos,af,none⟩::rest) s R:=by
 refine lf (x:= .c (.arr n 0 m.toNat m.toNat)) (c:={ new:=some cs }) (aF rfl) rfl ?_ (by rw[← hn];rfl) ?_ h
 ·show ui P s t l c=_
  unfold ui;rw[hi,hl,hc];show(if m=m/\0<=m/\m<=4611686018427387904/\(by_:Int)*m<=281474976710656 then _ else _)=_;rw[aaP ⟨rfl,h0,h1,h2⟩,hn,hz]
 ·rw[Ed,hH]
def Rx {i:Nat} {x:Operand} {v:al} {ds:List ab} {l:List (Nat×Operand)} {r:List (Nat×List ab)} (hx:s.ev x=v) (hd:v.aZ.cells=some ds) (h:gV s l=some r):gV s ((i,x)::l)=some ((i,ds)::r):=by
 simp[gV,hx,hd,h]
def Tz {t:TypeId} {l:List (Nat×Operand)} {zs cs:List ab} {p:Pl} {ps:List (Nat×List ab)} (hb:bInfo P t=some (zs,p)) (hp:gV s l=some ps) (hf:lD p zs ps=some cs) (h:WR P ops rest (s.put d (.agg cs)) (R.push .q0)):WR P ops (⟨d,.build t l.toArray,ty,pos,af,none⟩::rest) s R:=by
 refine dE (aF rfl) rfl ?_ (ep rfl rfl rfl) h;show qs P s t l=_;unfold qs;rw[hb,hp];dsimp only;rw[hf]
def DB {t:TypeId} {n:Nat} {l:List (Nat×Operand)} {by_:Nat} {zs cs:List ab} {ps:List (Nat×List ab)} (hi:eS P t=some (sz,by_,zs)) (hp:gV s l=some ps) (hn:n*sz<=16777216) (hf:lD (.elems sz) (dc zs n) ps=some cs) (hz:ng cs=some fs) (h:WR P ops rest (s.put d (.c (.bB true sz fs n))) (R.push .q0)):WR P ops (⟨d,.buildSlice t n l.toArray,ty,pos,af,none⟩::rest) s R:=by
 refine dE (aF rfl) rfl ?_ (ep rfl rfl rfl) h;show gu P s t n l=_;unfold gu;rw[hi,hp];dsimp only;rw[aaP hn,hf];dsimp only;rw[hz]
def nk {t:TypeId} {x:Operand} {v:al} {lo hi:Option Operand} {z len:Nat} {cs':List au} {l r:Int} {NY:Nat} (hz:bK P t=some z) (hx:s.ev x=v) (hv:v.aZ= .c (.f (.row cs len))) (hl:jg s lo 0=some l) (hr:jg s hi len=some r) (h0:0<=l) (h1:l<=r) (h2:r<=len) (hc:(cs.drop (l.toNat*z)).take ((r-l).toNat*z)=cs') (hn:(r-l).toNat=NY) (h:WR P ops rest (s.put d (.c (.f (.row cs' NY)))) (R.push .q0)):
  WR P ops (⟨d,.slice t x lo hi none,ty,pos,af,none⟩::rest) s R:=by
 refine dE (aF rfl) rfl ?_ (ep rfl rfl rfl) h;show fD P s _ t x lo hi none=_;unfold fD;rw[hz,hx,hv];dsimp only;rw[hl,hr];simp only[jg,Option.isSome_none,Bool.false_and];rw[aaP ⟨h0,h1,h2,Int.le_refl _⟩,hc,hn]
def DH {t:TypeId} {x m:Operand} {v:al} {lo hi:Operand} {z len:Nat} {cs':List au} {l r q:Int} {NY:Nat} (hz:bK P t=some z) (hx:s.ev x=v) (hv:v.aZ= .c (.f (.row cs len))) (hl:jg s (some lo) 0=some l) (hr:jg s (some hi) len=some r) (hm:jg s (some m) len=some q) (h0:0<=l) (h1:l<=r) (h2:r<=q) (h3:q<=len) (hc:(cs.drop (l.toNat*z)).take ((r-l).toNat*z)=cs') (hn:(r-l).toNat=NY) (h:WR P ops rest (s.put d (.c (.f (.row cs' NY)))) (R.push .q0)):
  WR P ops (⟨d,.slice t x (some lo) (some hi) (some m),ty,pos,af,none⟩::rest) s R:=by
 refine dE (aF rfl) rfl ?_ (ep rfl rfl rfl) h;show fD P s _ t x (some lo) (some hi) (some m)=_;unfold fD;rw[hz,hx,hv];dsimp only;rw[hl,hr,hm];simp only[ad8,Option.isNone_some,Bool.and_false];rw[aaP ⟨h0,h1,h2,h3⟩,hc,hn]
def jC {t tx:TypeId} {u:Tmp} {by_ n len:Nat} {zs:List ab} (hi:eS P t=some (sz,by_,zs)) (hx:s.ev (.tmp u)= .c (.bB q sz cs len)) (hs:bQ P s sz tx y=some (n,fs)) (X1:jF (s.ev y).aZ=fp) (h1:len+n<=4611686018427387904) (h2:(len+n)*by_<=140737488355328)
  (h:WR P ops rest ((s.put (some u) (.c (ab.aZ (.bB q sz cs len)))).put d (.c (.bB q sz (cs++fs) (len+n)))) (R.push ⟨fp,[],[],none,true,false⟩)):WR P ops (⟨d,.call { callee:= .builtin .append,args:= #[.tmp u,y],argTypes:= #[t,tx] },ty,pos,af,none⟩::rest) s R:=by
 have BI:s.sl u= .c (.bB q sz cs len):=hx;refine lf (x:= .c (.bB q sz (cs++fs) (len+n))) (c:={ aZ:=some u }) (aF rfl) rfl ?_ (by rw[← X1];cases q<;>(simp only[jI,ou,xV,hx,al.aZ,ab.aZ,jF,adX];rfl)) ?_ h
 ·show vO P s t tx (.tmp u) y=_
  apply Lk;unfold gW;rw[hi];dsimp only;rw[hs];dsimp only;have hh:holds s (.tmp u)=some (u,q,sz,cs,len):=by unfold holds;simp only[hx]
  rw[hh];dsimp only;rw[aaP ⟨rfl,h1,h2⟩]
 ·simp only[St.kZ,St.ir,St.qy,St.qW,St.aZ,BI,al.aZ,St.put]
def DA {t tx:TypeId} {x:Operand} {by_ n:Nat} {zs:List ab} (hi:eS P t=some (sz,by_,zs)) (hx:s.ev x= .c (.f .aD)) (hs:bQ P s sz tx y=some (n,fs)) (X1:jF (s.ev y).aZ=fp) (h1:n<=4611686018427387904) (h2:n*by_<=140737488355328)
  (h:WR P ops rest (s.put d (.c (.bB true sz fs n))) (R.push ⟨fp,[],[],none,false,false⟩)):WR P ops (⟨d,.call { callee:= .builtin .append,args:= #[x,y],argTypes:= #[t,tx] },ty,pos,af,none⟩::rest) s R:=by
 refine dE (aF rfl) rfl ?_ (by rw[← X1];simp only[jI,ou,xV,hx,al.aZ,ab.aZ,jF,adX];rfl) h;show vO P s t tx x y=_;refine Lk ?_;unfold gW;rw[hi];dsimp only;rw[hs];dsimp only;have hh:holds s x=none:=by unfold holds;split<;>simp[hx]
 rw[hh,hx];dsimp only;rw[aaP ⟨h1,h2⟩]
def vw {tx n:Nat} {v:al} (hy:s.ev y=v) (hv:v.aZ= .c (.f (.row cs n))) (hz:bK P tx=some sz) (hl:cs.length=n*sz):bQ P s sz tx y=some (n,cs):=by
 unfold bQ;rw[hy,hv,hz];simp[hl,and_self,if_true]
def VE {tx z:Nat} (hy:s.ev y= .c (.f .aD)) (hz:bK P tx=some z):bQ P s sz tx y=some (0,[]):=by
 unfold bQ;rw[hy];show(match bK P tx with|some z=>some (0,[])|none=>none)=_;rw[hz]
def Jj {t u:TypeId} {x:Operand} {v:al} {len:Nat} {l:List UInt8} (hc:rL P t u=true) (hx:s.ev x=v) (hv:v.aZ= .c (.f (.row cs len))) (hl:cs.length=len) (hb:bytesOf cs=some l) (h:WR P ops rest (s.put d (.c (.f (.v (.string ⟨l.toArray⟩))))) (R.push .q0)):WR P ops (⟨d,.convert t u x,ty,pos,af,none⟩::rest) s R:=by
 refine dE (aF rfl) rfl ?_ (ep rfl rfl rfl) h;show ik P s _ t u x=_;unfold ik;rw[hx,hv];dsimp only;rw[hc,hb];simp[hl]
def ZX {t1 t2:TypeId} {x:Operand} {k j:IntKind} {a b:Int} (hx:s.ev x= .c (.f (.v (.int k a)))) (hy:s.ev y= .c (.f (.v (.int j b)))) (h:WR P ops rest (s.put d (.c (.f (.v (.int k (max a b)))))) (R.push .q0)):
  WR P ops (⟨d,.call { callee:= .builtin .max,args:= #[x,y],argTypes:= #[t1,t2] },ty,pos,af,none⟩::rest) s R:=by
 refine dE (aF rfl) rfl ?_ (ep (by show jF (s.ev x).aZ++jF (s.ev y).aZ=[];rw[hx,hy];rfl) rfl rfl) h;show dz P s _=_;refine(fL (v:= .int k (max a b)) rfl ?_ ?_).trans rfl
 ·show([x,y].all fun x=>(s.ev x).jl.isSome)=true
  simp[dK hx,dK hy]
 ·simp[execOp,resolve,adJ,abh,aed,ew,kK,acM,invoke,builtin,fh hx,fh hy,Builtin.max_,afo,afq,Builtin.max2]
  have:(if b>a then b else a)=max a b:=by rw[Int.max_def];split<;>split<;>omega
  rw[this]
def ZY {t1 t2:TypeId} {x:Operand} {k j:IntKind} {a b:Int} (hx:s.ev x= .c (.f (.v (.int k a)))) (hy:s.ev y= .c (.f (.v (.int j b)))) (h:WR P ops rest (s.put d (.c (.f (.v (.int k (min a b)))))) (R.push .q0)):
  WR P ops (⟨d,.call { callee:= .builtin .min,args:= #[x,y],argTypes:= #[t1,t2] },ty,pos,af,none⟩::rest) s R:=by
 refine dE (aF rfl) rfl ?_ (ep (by show jF (s.ev x).aZ++jF (s.ev y).aZ=[];rw[hx,hy];rfl) rfl rfl) h;show dz P s _=_;refine(fL (v:= .int k (min a b)) rfl ?_ ?_).trans rfl
 ·show([x,y].all fun x=>(s.ev x).jl.isSome)=true
  simp[dK hx,dK hy]
 ·simp[execOp,resolve,adJ,abh,aed,ew,kK,acM,invoke,builtin,fh hx,fh hy,Builtin.min_,afo,afq,Builtin.min2]
  have:(if b<a then b else a)=min a b:=by rw[Int.min_def];split<;>split<;>omega
  rw[this]
def TD {o:Oper} (hw:dF ops s o=some true) (hc:dn o=some (f,xs)) (bs L:List Nat) {args cG:List al} {Hs Hs' H2:HB} {r r2:al} (hO:Ok P f cG Hs r Hs') {n:Nat} (hn:s.H.length=n) (h1:bs.Nodup) (h2: ∀ b∈bs,b<n) (h3:Hs.map (dV (sig n bs))=(bs.map fun b=>s.H.getD b none)) (h4: ∀ x∈cG,x.ok Hs.length=true) (h5:Hs.all (okB Hs.length)=true) (h6:Hs'.all (okB Hs'.length)=true)
  (h7:cG.map (al.dY (sig n bs))=args) (h7':(xs.map fun x=>((s.ev x).h).dP s.H L)=args) (h8: ∀ b∈L,b∉bs) (h9:L=[]\/(r.bare=true/\Hs'.all Cf=true)) {c:Cl} (hcl:(⟨bs++L,[],bs,if Hs'.length=bs.length then none else some n,false,false⟩:Cl)=c) (hr:r.dY (sig n bs)=r2) (hH:bR s.H bs (Hs'.map (dV (sig n bs)))=H2)
  (h:WR P ops rest ((s.lY H2).put o.dst r2) (R.push c)):WR P ops (o::rest) s R:=by
 apply oV;unfold vD;rw[hw,hc];dsimp only;rw[aaP rfl];subst hn;refine .inr ⟨bs,L,cG,Hs,Hs',r,hO,h1,h2,h3,h4,h5,h6,h7.trans h7'.symm,h8,h9,?_⟩;rw[hcl,hr,hH];exact h
def ue {op:Op} {gg:Nat×Bool} {s:St} (hw:Wt ops s ⟨d,op,ty,pos,af,some gg⟩) {K:Cl->St->Prop} (hk:vD P ops ⟨d,op,ty,pos,af,none⟩ s K):vD P ops ⟨d,op,ty,pos,af,some gg⟩ s K:=by
 have hex: ∀ ev,execOp ev ⟨d,op,ty,pos,af,some gg⟩=execOp ev ⟨d,op,ty,pos,af,none⟩:=fun ev=>by cases op<;>rfl
 have hpl:dz P s ⟨d,op,ty,pos,af,some gg⟩=dz P s ⟨d,op,ty,pos,af,none⟩:=by unfold dz;rw[hex]
 have adN: ∀ tr,np P tr s ⟨d,op,ty,pos,af,some gg⟩=np P tr s ⟨d,op,ty,pos,af,none⟩:=fun tr=>by
  cases op<;>first|rfl|exact hpl|(simp[np,oZ,fD,ik,hpl];done)|(simp[np,Ca,td,hpl];done)
 unfold vD at hk⊢;rw[hw];rw[aF rfl]at hk
 dsimp only at hk⊢;rw[aaP rfl]at hk⊢
 have hcl:dn ⟨d,op,ty,pos,af,some gg⟩=dn ⟨d,op,ty,pos,af,none⟩:=rfl;rw[hcl];cases hc:dn ⟨d,op,ty,pos,af,none⟩with
 |some fx=>rw[hc]at hk;exact hk
 |none=>
  rw[hc]at hk
  rcases hk with ⟨x,c,h1,h2⟩|⟨v,h1,h2⟩|⟨x,c,fp,h1,h2⟩
  ·exact .inl ⟨x,c,(adN _).trans h1,h2⟩
  ·exact .inr (.inl ⟨v,⟨h1.op,h1.plain,fun w=>by rw[hex];exact h1.run w⟩,h2⟩)
  ·exact .inr (.inr ⟨x,c,fp,⟨fun s' k1 k2 k3 a w κ ρ hR=>by
    have:=h1.sim s' k1 k2 k3 a w κ ρ hR;unfold Yields at this⊢;rw[hex]
    exact this,h1.eu,h1.aZ⟩,h2⟩)
def Jl {op:Op} {gg:Nat×Bool} (hw:Wt ops s ⟨d,op,ty,pos,af,some gg⟩) (h:WR P ops (⟨d,op,ty,pos,af,none⟩::rest) s R):WR P ops (⟨d,op,ty,pos,af,some gg⟩::rest) s R:=by
 refine⟨?_⟩;have h:=h.out;cases R with
 |plain K=>
  rcases h with h|⟨k1,k2⟩|⟨k1,k2⟩|⟨s2,k1,k2⟩|⟨k1,α,F,k2,k3,k4⟩
  ·exact .inl (ue hw h)
  ·exact .inr (.inl ⟨hw,k2⟩)
  ·exact .inr (.inr (.inl ⟨hw,k2⟩))
  ·exact .inr (.inr (.inr (.inl ⟨s2,k1,ue (k1.2 _ hw) k2⟩)))
  ·refine .inr (.inr (.inr (.inr ⟨hw,α,F,k2,fun a w κ ρ hR ht next Q hn=> ?_,k4⟩)))
   have hex: ∀ ev,execOp ev ⟨d,op,ty,pos,af,some gg⟩=execOp ev ⟨d,op,ty,pos,af,none⟩:=fun ev=>by cases op<;>rfl
   have:=k3 a w κ ρ hR ht next Q hn
   unfold Oper.wp at this⊢;rw[hex];exact this
 |drawn acc K=>exact ue (K:=fun c s'=>qp P ops rest s' (c::acc) K) hw h
 |seq acc K=>exact ue (K:=fun c s'=>Lg P ops rest s' (c::acc) K) hw h
def Pm {op:Op} (hw:dF ops s ⟨d,op,ty,pos,af,g⟩=some false) (h:WR P ops rest (s.put d (.c .tV)) (R.push .q0)):WR P ops (⟨d,op,ty,pos,af,g⟩::rest) s R:=Lh hw h
def Pj {c:Call} {args:List al} {r:al} (hc:dn ⟨d,.call c,ty,pos,af,none⟩=some (f,xs)) (ha:(xs.map fun x=>(s.ev x).h)=args) (hok:(args.all (al.ok 0))=true) (hO:Ok P f args [] r []) (h:WR P ops rest (s.put d r) (R.push .q0)):WR P ops (⟨d,.call c,ty,pos,af,none⟩::rest) s R:=TF (aF rfl) hc ha hok hO h
def ab.jd {H:HB} (x:ab):x.dP H []=x:=by cases x<;>simp[ab.dP]
theorem uX {H:HB} (l:List ab):l.map (ab.dP H [])=l:=by rw[aby (g:=id) (fun x _=>ab.jd x)];simp
theorem al.jd {H:HB} (x:al):x.dP H []=x:=by
 cases x with
 |c x=>simp[al.dP,ab.jd]
 |agg cs=>simp[al.dP,uX]
 |dt ts=>simp[al.dP];rw[aby (g:=id) (fun x _=>by cases x<;>simp[bJ.dP,ab.jd,uX])];simp
def W6 (bs:List Nat) {c:Call} {args cG:List al} {H Hs Hs' H2:HB} {r r2:al} {n:Nat} {q:Cl} (hc:dn ⟨d,.call c,ty,pos,af,none⟩=some (f,xs)) (ha:(xs.map fun x=>(s.ev x).h)=args) (hH:s.H=H) (hO:Ok P f cG Hs r Hs') (h7:cG.map (al.dY (sig H.length bs))=args) (hn:H.length=n) (h3:Hs.map (dV (sig n bs))=(bs.map fun b=>H.getD b none)) (h1:bs.Nodup) (h2:(bs.all fun b=>afO b n)=true) (h4:cG.all (al.ok Hs.length)=true) (h5:Hs.all (okB Hs.length)=true) (h6:Hs'.all (okB Hs'.length)=true)
  (hr:r.dY (sig n bs)=r2) (EB:bR H bs (Hs'.map (dV (sig n bs)))=H2) (hq:(⟨bs,[],bs,if Hs'.length=bs.length then none else some n,false,false⟩:Cl)=q)
  (h:WR P ops rest ((s.lY H2).put d r2) (R.push q)):WR P ops (⟨d,.call c,ty,pos,af,none⟩::rest) s R:=by
 subst hH;subst hn;refine TD (n:=s.H.length) (r2:=r2) (H2:=H2) (c:=q) (aF rfl) hc bs [] hO rfl h1 (fun b hb=>by simpa using abi.1 h2 b hb) h3 (abi.1 h4) h5 h6 (args:=args) h7 ?_ (by simp) (.inl rfl) (by rw[← hq,acQ]) hr EB h;rw[← ha];exact aby fun x _=>al.jd _
def mD {t:TypeId} {x:Operand} {n b:Nat} {cells:List ab} {len:Nat} {H':HB} (hf:gb ops ⟨d,.load t x,ty,pos,af,none⟩=true) (ht:rW P t=some (false,n)) (hx:s.ev x= .c (.ptr b off)) (hb:s.H[b]? =some (some cells)) (hy:cells[off]? =some (.bB q sz cs len)) (hH:fN s.H b (cells.modify off ab.aZ)=H') (h:WR P ops rest ((s.lY H').put d (.c (.bB q sz cs len))) (R.push (.tk b))):WR P ops (⟨d,.load t x,ty,pos,af,none⟩::rest) s R:=by
 refine lf (x:= .c (.bB q sz cs len)) (c:={ eu:=some (b,cells.modify off ab.aZ) }) (aF rfl) rfl ?_ (by rw[hf];unfold jI;show(⟨qZ (s.ev x),_,_,_,_,_⟩:Cl)=_;rw[hx];rfl) ?_ h
 ·show fY P (gb ops _) s t x=_
  unfold fY;rw[ht,hx];dsimp only;rw[hb];dsimp only;rw[hy,hf]
 ·rw[Lz,hH]
def mC {t:TypeId} {x:Operand} {n b:Nat} {cells:List ab} {y:ab} (hf:gb ops ⟨d,.load t x,ty,pos,af,none⟩=false) (ht:rW P t=some (false,n)) (hx:s.ev x= .c (.ptr b off)) (hb:s.H[b]? =some (some cells)) (hy:cells[off]? =some y) (hm:jo [y]=true) (h:WR P ops rest (s.put d (.c y.aZ)) (R.push (.ld false b))):WR P ops (⟨d,.load t x,ty,pos,af,none⟩::rest) s R:=by
 refine dE (aF rfl) rfl ?_ (by rw[hf];exact Ee hx) h;show fY P (gb ops _) s t x=_;unfold fY;rw[ht,hx];dsimp only;rw[hb];dsimp only;rw[hy,hf];cases y<;>first|rfl|cases hm
def kO {t:TypeId} {x:Operand} {u:Tmp} {p:Bool} {b:Nat} {cells:List ab} {len:Nat} {H':HB} (ht:rW P t=some (q,1)) (hx:s.ev x= .c (.ptr b off)) (hb:s.H[b]? =some (some cells)) (hy:s.ev (.tmp u)= .c (.bB p sz cs len)) (hl:afO off cells.length=true) (hm:jo cells=true) (hH:fN s.H b (cells.set off (.bB p sz cs len))=H')
  (h:WR P ops rest ((s.put (some u) (.c (ab.aZ (.bB p sz cs len)))).lY H') (R.push (.ZO b))):WR P ops (⟨none,.store t x (.tmp u),ty,pos,af,none⟩::rest) s R:=by
 have xY:s.sl u= .c (.bB p sz cs len):=hy;refine lf (x:= .c .any) (c:={ aZ:=some u,eu:=some (b,cells.set off (.bB p sz cs len)) }) (aF rfl) rfl ?_ (by unfold jI;show(⟨qZ (s.ev x),_,_,_,_,_⟩:Cl)=_;rw[hx];rfl) ?_ h
 ·show nK P s t x (.tmp u)=_
  unfold nK;rw[ht,hx];dsimp only;rw[hb];dsimp only;have hh:holds s (.tmp u)=some (u,p,sz,cs,len):=by unfold holds;simp[hy]
  rw[hh];dsimp only;rw[aaP ⟨rfl,by simpa using hl,hm⟩]
 ·rw[← hH]
  simp[St.kZ,St.ir,St.qy,St.qW,St.aZ,xY,al.aZ,St.put,St.lY]
def DE {c x:Operand} {b:Bool} {v:al} (hc:s.ev c= .c (.f (.v (.bool b)))) (hb:b=true) (hx:s.ev x=v) (hv:Flat v=true) (h:WR P ops rest (s.put d v) (R.push .q0)):WR P ops (⟨d,.pick c x y,ty,pos,af,none⟩::rest) s R:=by
 subst hb;refine Ph hc hx rfl ?_;rw[aaP rfl,dC hv];exact h
def DD {c x:Operand} {b:Bool} {v:al} (hc:s.ev c= .c (.f (.v (.bool b)))) (hb:b=false) (hy:s.ev y=v) (hv:Flat v=true) (h:WR P ops rest (s.put d v) (R.push .q0)):WR P ops (⟨d,.pick c x y,ty,pos,af,none⟩::rest) s R:=by
 subst hb;refine Ph hc rfl hy ?_;rw[aaO (by decide),dC hv];exact h
variable {D:Array Oper->St->(St->Prop)->Prop} {n0:Nat} {K:bN->St->Prop}
def uy {x:Operand} {k:IntKind} {n m:Int} (h:s.ev x= .c (.f (.v (.int k n)))):jg s (some x) m=some n:=by
 simp[jg,h,al.ix]
def Oz {x:Tmp} {t:TypeId} {n b:Nat} {cells cs:List ab} {z:bJ} {rs:List ResultVar} {ys:List bJ} (ht:rW P t=some (true,n)) (hx:s.ev (.tmp x)= .c (.ptr b off)) (hb:s.H[b]? =some (some cells)) (hl:off+n<=cells.length) (hm:jo cells=true) (hc:((cells.drop off).take n).map ab.aZ=cs) (hz:bJ.nz (.agg cs)=z) (h:vl P s rs=some ys):vl P s (.cell x t::rs)=some (z::ys):=by
 have:fY P false s t (.tmp x)=some (.agg cs,{}):=by
  unfold fY;rw[ht,hx];dsimp only;rw[hb];dsimp only;rw[aaP ⟨hl,hm⟩,hc]
 simp[vl,KH,this,al.t,adK,hz,h]
def Oy {x:Tmp} {t:TypeId} {n b:Nat} {cells:List ab} {y:ab} {z:bJ} {rs:List ResultVar} {ys:List bJ} (ht:rW P t=some (false,n)) (hx:s.ev (.tmp x)= .c (.ptr b off)) (hb:s.H[b]? =some (some cells)) (hy:cells[off]? =some y) (hm:jo [y]=true) (hz:bJ.nz (.c y.aZ)=z) (h:vl P s rs=some ys):vl P s (.cell x t::rs)=some (z::ys):=by
 have:fY P false s t (.tmp x)=some (.c y.aZ,{}):=by
  unfold fY;rw[ht,hx];dsimp only;rw[hb];dsimp only;rw[hy];cases y<;>first|rfl|cases hm
 simp[vl,KH,this,al.t,adK,hz,h]
def M3.U7 {x y:al} (h:M3 x y) {n:Nat} (hy:y.ok n=true):x.ok n=true:=by
 cases h with
 |refl=>exact hy
 |_=>rfl
def Td {n0:Nat} {H H0:HB} {l:List (Nat×al)} (hH0:s.H=H0) (h0:n0<=H.length) (hn:H.length<=H0.length) (hg:(H0.take H.length).all (okB H.length)=true) (hl:(l.all fun p=>p.2.ok H.length)=true) (hH:Bk (H0.take H.length) H) (h:Dx s l):dG n0 s (St.of H l):=by
 subst hH0;have w1:dG n0 s (gc H.length s):=VU h0 hn hg;have w2:dG n0 (gc H.length s) (St.of H l):=by
  refine Te (H0:=s.H.take H.length) rfl ?_ hH ?_
  ·rw[adI];omega
  ·clear hH hg w1
   induction l with
   |nil=>trivial
   |cons a l ih=>
    have⟨d,x⟩:=a;rw[aeZ,ada]at hl
    have⟨⟨y,h1,h2⟩,h3⟩:=h;refine⟨⟨y,?_,h2⟩,ih hl.2 h3⟩;show Zp H.length (s.sl d)=y;have h1:s.sl d=y:=h1;rw[h1];unfold Zp;rw[aaP (h2.U7 hl.1)]
 exact w1.trans w2
def VX {t u:TypeId} {x:Operand} {cs ds:List ab} {vs us:List Value} {r:Bool} (hx:s.ev x= .agg cs) (hy:s.ev y= .agg ds) (ZH:vy cs=some vs) (hus:vy ds=some us) (hg:P.eqGuardType P.depth t=false) (heq: ∀ w,(binOp op t (.agg vs.toArray) (.agg us.toArray)).run P w= .ok (.bool r) w) (h:WR P ops rest (s.put d (.c (.f (.v (.bool r))))) (R.push .q0)):WR P ops (⟨d,.binOp op t x y u,ty,pos,af,none⟩::rest) s R:=by
 have tx:(s.ev x).jl=some (.agg vs.toArray):=by rw[hx];simp only[al.jl,ZH]
 have t_y:(s.ev y).jl=some (.agg us.toArray):=by rw[hy];simp only[al.jl,hus]
 refine Xb (v:= .bool r) (aF rfl) rfl ⟨⟨op,t,x,y,u,rfl⟩,?_,fun w=> ?_⟩ h
 ·show([x,y].all fun x=>(s.ev x).jl.isSome)=true
  simp[tx,t_y]
 ·have ex:s.env x= .agg vs.toArray:=by unfold St.env;rw[tx];rfl
  have ey:s.env y= .agg us.toArray:=by unfold St.env;rw[t_y];rfl
  have hgr:(eqGuard op t x y (.agg vs.toArray) (.agg us.toArray)).run P w= .ok () w:=by
   unfold eqGuard;by_cases ho:(match op with| .eql| .neq=>true|_=>false)=true
   ·cases op<;>first|(cases ho;done)|simp[program,Sem.run,hg]
   ·cases op<;>first|(exact absurd rfl ho)|rfl
  simp only[execOp,ex,ey,Sem.run_bind,hgr,ad9,heq w];rfl
def nr {α β:Type} (F:α->List β) (n:Nat) (hn: ∀ x,(F x).length=n): ∀ (l:List α) (i k:Nat) (a:α),l[i]? =some a->k<n->(l.flatMap F)[i*n+k]? =(F a)[k]?
 |[],i,k,a,h,_=>by simp at h
 |x::l,0,k,a,h,hk=>by
  have:x=a:=by simpa using h
  subst this;simp[abP,ad1,aeg];rw[abr (by rw[hn];exact hk)]
 |x::l,i+1,k,a,h,hk=>by
  simp[abP];have e:(i+1)*n+k=n+(i*n+k):=by rw[acK];omega
  rw[e,acV (by rw[hn];omega),hn,ac1];exact nr F n hn l i k a (by simpa using h) hk
def iF {α β:Type} (F:α->List β) (n:Nat) (hn: ∀ x,(F x).length=n): ∀ (l:List α) (i:Nat) (a:α),l[i]? =some a->i*n+n<=(l.flatMap F).length/\((l.flatMap F).drop (i*n)).take n=F a
 |[],i,a,h=>by simp at h
 |x::l,0,a,h=>by
  have:x=a:=by simpa using h
  subst this;simp only[abP,ad1,aeg,aeD,acP,hn];exact⟨by omega,by rw[adB (by rw[hn];exact acE _),acO (by rw[hn];exact acE _)]⟩
 |x::l,i+1,a,h=>by
  have⟨h1,h2⟩:=iF F n hn l i a (by simpa using h);simp only[abP,acP,hn];have e:(i+1)*n=n+i*n:=by rw[acK];omega
  refine⟨by omega,?_⟩;have e2:(F x++l.flatMap F).drop n=l.flatMap F:=by
   have e3:(F x).drop n=[]:=ae6 (by rw[hn];exact acE _);rw[aet (by rw[hn];exact acE _),e3,adX]
  rw[e,← afx,e2];exact h2
def W8 {t u:TypeId} {x:Operand} {a b:ByteArray} (hx:s.ev x= .c (.f (.v (.string a)))) (hy:s.ev y= .c (.f (.v (.string b)))) (hl:a.size+b.size<=9223372036854775807) (h:WR P ops rest (s.put d (.c (.f (.v (.string (a++b)))))) (R.push .q0)):WR P ops (⟨d,.binOp .add t x y u,ty,pos,af,none⟩::rest) s R:=
 Pk hx hy (by show(if((a.size+b.size:Nat):Int)>9223372036854775807 then none else _)=_;rw[aaO (by omega)]) h
def hh:(∀ (s:St) (d:Option Tmp) (x:al),(s.put d x).H=s.H)/\(∀ (H:HB) (l:List (Nat×al)),(St.of H l).H=H)/\(∀ (s:St) (H:HB),(s.lY H).H=H)/\(∀ (H:HB) (b:Nat) (cs:List ab),fN H b cs=H.set b (some cs))/\
  (∀ (cs:List ab) (o:Nat),setAt cs o []=cs)/\(∀ (cs:List ab) (o:Nat) (d:ab) (ds:List ab),setAt cs o (d::ds)=setAt (cs.set o d) (o+1) ds)/\
  (∀ (a b:ab) (l:List ab),(a::l).set 0 b=b::l)/\(∀ (a b:ab) (l:List ab) (n:Nat),(a::l).set (n+1) b=a::l.set n b)/\(∀ (a b:Option (List ab)) (l:HB),(a::l).set 0 b=b::l)/\(∀ (a b:Option (List ab)) (l:HB) (n:Nat),(a::l).set (n+1) b=a::l.set n b)/\
  (∀ (a:ab) (l:List ab) (f:ab->ab),(a::l).modify 0 f=f a::l)/\(∀ (a:ab) (l:List ab) (f:ab->ab) (n:Nat),(a::l).modify (n+1) f=a::l.modify n f)/\(∀ (z l:Nat) (cs:List au),ab.aZ (.bB true z cs l)= .f (.row cs l))/\(∀ x:au,ab.aZ (.f x)= .f x)/\
  (∀ (a:Option (List ab)) (l:HB),(a::l).length=l.length+1)/\(([]:HB).length=0)/\(∀ n:Nat,0+n=n)/\(∀ (a:Option (List ab)) (l m:HB),a::l++m=a::(l++m))/\(∀ l:HB,[]++l=l):=
 ⟨fun _ _ _=>ZR,fun _ _=>Tu,fun _ _=>rfl,fun _ _ _=>rfl,fun _ _=>rfl,fun _ _ _ _=>rfl,fun _ _ _=>rfl,fun _ _ _ _=>rfl,fun _ _ _=>rfl,fun _ _ _ _=>rfl,fun _ _ _=>rfl,fun _ _ _ _=>rfl,fun _ _ _=>rfl,fun _=>rfl,fun _ _=>rfl,rfl,aeg,fun _ _ _=>rfl,fun _=>rfl⟩
def zz:(∀ x:Value,ab.nz (.f (.v x))= .f (.v x))/\(∀ (cs:List au) (n:Nat),ab.nz (.f (.row cs n))= .f (.row cs n))/\(ab.nz (.f .aD)= .f (.row [] 0))/\(∀ (cs:List au) (n:Nat),ab.nz (.ip cs n)= .ip cs n)/\(∀ b n:Nat,ab.nz (.ptr b n)= .ptr b n)/\(∀ b n l c:Nat,ab.nz (.arr b n l c)= .arr b n l c)/\(∀ (z l:Nat) (cs:List au),ab.nz (.bB true z cs l)= .bB true z cs l)/\(ab.nz .tV= .tV)/\(ab.nz .any= .any)/\
  (∀ x:al,x.h=x.aZ.nz)/\(∀ x:ab,(al.c x).aZ= .c x.aZ)/\(∀ cs:List ab,(al.agg cs).aZ= .agg cs)/\(∀ ts:List bJ,(al.dt ts).aZ= .dt ts)/\(∀ x:ab,(al.c x).nz= .c x.nz)/\(∀ cs:List ab,(al.agg cs).nz= .agg (cs.map ab.nz))/\(∀ ts:List bJ,(al.dt ts).nz= .dt (ts.map bJ.nz))/\(∀ x:ab,(bJ.c x).nz= .c x.nz)/\(∀ cs:List ab,(bJ.agg cs).nz= .agg (cs.map ab.nz))/\
  (∀ (z l:Nat) (cs:List au),ab.aZ (.bB true z cs l)= .f (.row cs l))/\(∀ x:au,ab.aZ (.f x)= .f x)/\(∀ (cs:List au) (n:Nat),ab.aZ (.ip cs n)= .ip cs n)/\(∀ b n:Nat,ab.aZ (.ptr b n)= .ptr b n)/\(∀ b n l c:Nat,ab.aZ (.arr b n l c)= .arr b n l c)/\(ab.aZ .tV= .tV)/\(ab.aZ .any= .any)/\
  (∀ (f:ab->ab) (a:ab) (l:List ab),(a::l).map f=f a::l.map f)/\(∀ f:ab->ab,([]:List ab).map f=[])/\(∀ (f:al->al) (a:al) (l:List al),(a::l).map f=f a::l.map f)/\(∀ f:al->al,([]:List al).map f=[])/\(∀ (f:bJ->bJ) (a:bJ) (l:List bJ),(a::l).map f=f a::l.map f)/\(∀ f:bJ->bJ,([]:List bJ).map f=[])/\
  (∀ l:List ab,l.drop 0=l)/\(∀ (a:ab) (l:List ab) (n:Nat),(a::l).drop (n+1)=l.drop n)/\(∀ l:List ab,l.take 0=[])/\(∀ (a:ab) (l:List ab) (n:Nat),(a::l).take (n+1)=a::l.take n):=
 ⟨fun _=>rfl,fun _ _=>rfl,rfl,fun _ _=>rfl,fun _ _=>rfl,fun _ _ _ _=>rfl,fun _ _ _=>rfl,rfl,rfl,fun _=>rfl,fun _=>rfl,fun _=>rfl,fun _=>rfl,fun _=>rfl,fun _=>rfl,fun _=>rfl,fun _=>rfl,fun _=>rfl,fun _ _ _=>rfl,fun _=>rfl,fun _ _=>rfl,fun _ _=>rfl,fun _ _ _ _=>rfl,rfl,rfl,fun _ _ _=>rfl,fun _=>rfl,fun _ _ _=>rfl,fun _=>rfl,fun _ _ _=>rfl,fun _=>rfl,fun _=>rfl,fun _ _ _=>rfl,fun _=>rfl,fun _ _ _=>rfl⟩
def wn {o:Oper} (h:o.guard=none):dF ops s o=some true:=aF h
end
inductive SC:Type 1 where
 |c (x:ab)
 |row {α:Type} (z:Nat) (F:α->List au) (V:α->List SC) (d:α) (l:List α)
 |Cq {α:Type} (z:Nat) (F:α->List au) (V:α->List SC) (d:α) (l:List α) (i:Int) (k:Nat)
 |Bu (b z:Nat) (i:Int) (k:Nat)
 |cX {α:Type} (z:Nat) (F:α->List au) (V:α->List SC) (M:List au->Option α) (d:α) (l:List α)
 |dr {α:Type} (z:Nat) (F:α->List au) (V:α->List SC) (M:List au->Option α) (d:α) (l:List α)
def SC.den:SC->ab
 | .c x=>x
 | .row z F V d l=> .f (.row (l.flatMap F) l.length)
 | .Cq z F V d l i k=> .ip (l.flatMap F) (i.toNat*z+k)
 | .Bu b z i k=> .ptr b (i.toNat*z+k)
 | .cX z F V M d l=> .bB true z (l.flatMap F) l.length
 | .dr z F V M d l=> .bB false z (l.flatMap F) l.length
inductive ST:Type 1 where
 |c (x:SC)
 |agg (l:List SC)
inductive SV:Type 1 where
 |c (x:SC)
 |agg (l:List SC)
 |dt (l:List ST)
def bw (l:List SC):List ab:=l.map SC.den
def ST.den:ST->bJ
 | .c x=> .c x.den
 | .agg l=> .agg (bw l)
def SV.den:SV->al
 | .c x=> .c x.den
 | .agg l=> .agg (bw l)
 | .dt l=> .dt (l.map ST.den)
inductive SE:Type 1 where
 |v (x:SV)
 |g (b:Bool) (x:SV)
 |u
def SE.den:SE->al
 | .v x=>x.den
 | .g b x=>bif b then x.den else .c .tV
 | .u=> .c .tV
inductive SB:Type 1 where
 |cells (l:List SC)
 |gn {α:Type} (z:Nat) (F:α->List au) (V:α->List SC) (M:List au->Option α) (d:α) (l:List α) (m:Nat)
 |mp {β:Type} (q:Bool) (F:β->List au) (V:β->List SC) (M:List au->Option β) (d:β) (es:List (List Int×β))
 |rws {α:Type} (z:Nat) (F:α->List au) (V:α->List SC) (M:List au->Option α) (d:α) (l:List (List α)) (h:Option (Int×SC))
 |bF {α:Type} (z:Nat) (F:α->List au) (V:α->List SC) (M:List au->Option α) (d:α) (l:List α)
def iW (z:Nat) (F:α->List au) (l:List (List α)):Option (Int×SC)->List ab
 |none=>l.map fun r=> .bB false z (r.flatMap F) r.length
 |some (i,x)=>(l.map fun r=>ab.bB false z (r.flatMap F) r.length).set i.toNat x.den
def SB.den:SB->List ab
 | .cells l=>bw l
 | .gn z F V M d l m=>(l.flatMap F).map ab.f++abV m .any
 | .mp q F V M d es=>[.mp q (es.map fun p=>(p.1,F p.2))]
 | .rws z F V M d l h=>iW z F l h
 | .bF z F V M d l=>(l.flatMap F).map ab.f
abbrev SH:=List (Option SB)
abbrev SL:=List (Nat×SE)
def ob:Option SB->Option (List ab)
 |some b=>some b.den
 |none=>none
def bh (H:SH):HB:=H.map ob
def Nw (l:SL):List (Nat×al):=l.map fun p=>(p.1,p.2.den)
def SS (l:SL) (H:SH):St:=St.of (bh H) (Nw l)
def cM (l:SL) (H:SH):(SS l H).H=bh H:=Tu
def oT (l:SL) (H:SH) (d:Nat) (x:SE):(SS l H).put (some d) x.den=SS ((d,x)::l) H:=rfl
def MI {H H':HB}: ∀ l:List (Nat×al),(St.of H l).lY H'=St.of H' l
 |[]=>rfl
 |(d,x)::l=>by
  show((St.of H l).put (some d) x).lY H'=_;rw[← RB,MI l];rfl
def fg (l:SL) (H H':SH):(SS l H).lY (bh H')=SS l H':=MI _
def gC (l:List SC):(bw l).length=l.length:=by simp[bw]
def aR (H:SH):(bh H).length=H.length:=by simp[bh]
def lk:SL->Nat->Option SE
 |[],_=>none
 |(d,e)::l,t=>match abO d t with
  |true=>some e
  |false=>lk l t
def mS {H:SH} {t:Nat}: ∀ {l:SL} {e:SE},lk l t=some e->(SS l H).ev (.tmp t)=e.den
 |[],e,h=>by cases h
 |(d,x)::l,e,h=>by
  unfold lk at h;split at h
  next hb=>
   cases h;have hd:d=t:=abg hb;subst hd;exact JW
  next hb=>
   have hd: ¬ d=t:=fun e=>by subst e;rw[Nat.beq_refl]at hb;cases hb
   exact(GH (fun e=>hd e.symm)).trans (mS (l:=l) h)
def nth {α:Type 1}:List α->Nat->Option α
 |[],_=>none
 |x::_,0=>some x
 |_::l,n+1=>nth l n
def jP {α:Type 1}: ∀ (l:List α) (n:Nat),nth l n=l[n]?
 |[],n=>by simp[nth]
 |x::l,0=>by simp[nth]
 |x::l,n+1=>by simp[nth,jP l n]
def jO {l:List SC} {n:Nat} {x:SC} (h:nth l n=some x):(bw l)[n]? =some x.den:=by
 rw[jP]at h
 simp[bw,h]
def eK {H:SH} {n:Nat} {x:SB} (h:nth H n=some (some x)):(bh H)[n]? =some (some x.den):=by
 rw[jP]at h
 simp[bh,h,ob]
def MT {β:Type 1}:List SC->Nat->(List SC->Option β)->Option β
 |_,0,k=>k []
 |[],_+1,_=>none
 |x::l,n+1,k=>MT l n fun r=>k (x::r)
def LH {β:Type 1}:List SC->Nat->(List SC->Option β)->Option β
 |l,0,k=>k l
 |[],_+1,_=>none
 |_::l,n+1,k=>LH l n k
def JN {β:Type 1} (l:List SC) (off n:Nat) (k:List SC->Option β):Option β:=LH l off fun r=>MT r n k
def IP {β:Type 1} {k:List SC->Option β} {r:β}: ∀ (l:List SC) (n:Nat),MT l n k=some r->n<=l.length/\k (l.take n)=some r
 |l,0,h=>by
  refine⟨afJ _,?_⟩;have:MT l 0 k=k []:=by cases l<;>rfl
  rw[this]at h
  simpa using h
 |[],n+1,h=>by cases h
 |x::l,n+1,h=>by
  have⟨h1,h2⟩:=IP (k:=fun r=>k (x::r)) l n h;exact⟨by simp;exact h1,by simpa using h2⟩
def GA {β:Type 1} {k:List SC->Option β} {r:β}: ∀ (l:List SC) (n:Nat),LH l n k=some r->n<=l.length/\k (l.drop n)=some r
 |l,0,h=>by
  refine⟨afJ _,?_⟩;have:LH l 0 k=k l:=by cases l<;>rfl
  rw[this]at h
  simpa using h
 |[],n+1,h=>by cases h
 |x::l,n+1,h=>by
  have⟨h1,h2⟩:=GA (k:=k) l n h;exact⟨by simp;exact h1,by simpa using h2⟩
def rK {β:Type 1} {k:List SC->Option β} {r:β} {l:List SC} {n:Nat} (h:JN l off n k=some r):off+n<=l.length/\k ((l.drop off).take n)=some r:=by
 have⟨h1,h2⟩:=GA _ _ h;have⟨h3,h4⟩:=IP _ _ h2;rw[acX]at h3
 exact⟨by omega,h4⟩
def lR (fs:List au) (m:Nat):jo (fs.map ab.f++abV m .any)=true:=by
 cases fs with
 |nil=>cases m<;>rfl
 |cons f l=>rfl
def Ix {z:Nat} {l:List (List α)} {h:Option (Int×SC)}:(iW z F l h).length=l.length:=by
 cases h with
 |none=>simp[iW]
 |some p=>have⟨i,x⟩:=p;simp[iW]
def Rd:List SC->Bool
 | .c (.mp ..)::_=>false
 |_=>true
def qX: ∀ {l:List SC},Rd l=true->jo (bw l)=true
 |[],_=>rfl
 | .c x::l,h=>by cases x<;>first|rfl|cases h
 | .row .. ::l,_=>rfl
 | .Cq .. ::l,_=>rfl
 | .Bu .. ::l,_=>rfl
 | .cX .. ::l,_=>rfl
 | .dr .. ::l,_=>rfl
def aL:SC->Bool
 | .c (.mp ..)=>false
 |_=>true
def wv {x:SC} (h:aL x=true):jo [x.den]=true:=by
 cases x with
 |c x=>cases x<;>first|rfl|cases h
 |_=>rfl
def wG {z:Nat} {l:List (List α)}: ∀ {h:Option (Int×SC)},(∀ i x,h=some (i,x)->aL x=true)->jo (iW z F l h)=true
 |none,_=>by cases l<;>rfl
 |some (i,x),hx=>by
  have:=wv (hx i x rfl);cases l with
  |nil=>rfl
  |cons r l=>
   simp[iW,abh];cases i.toNat with
   |zero=>
    simp[afh]
    revert this
    cases x.den<;>first|(intro _;rfl)|(intro h;cases h)
   |succ n=>rfl
def AW {z:Nat} {l:List (List α)} {i:Int} (h0:0<=i) (h1:i<l.length):(iW z F l none)[i.toNat]? =some (.bB false z ((l.getD i.toNat []).flatMap F) (l.getD i.toNat []).length):=by
 have hi:i.toNat<l.length:=by omega
 simp[iW,GD,GE hi]
def oK {z:Nat} {l:List (List α)} {i:Int} {x:SC} (h0:0<=i) (h1:i<l.length):(iW z F l (some (i,x)))[i.toNat]? =some x.den:=by
 have hi:i.toNat<l.length:=by omega
 simp[iW,ac7,hi]
def Da {z:Nat} {l:List (List α)} {i:Int} {x y:SC}:(iW z F l (some (i,y))).set i.toNat x.den=iW z F l (some (i,x)):=by
 simp[iW]
def yh {l:List SC} {n:Nat}:((bw l).drop off).take n=bw ((l.drop off).take n):=by simp[bw]
structure SR:Type 1 where
 x:SV
 dm:Option (Nat×SE)
 H:Option SH
 cl:Cl
 p:Prop
def St.Zl (s:St):Option (Nat×SE)->St
 |none=>s
 |some (t,e)=>s.put (some t) e.den
def St.OH (s:St):Option SH->St
 |none=>s
 |some H=>s.lY (bh H)
def SR.fq (r:SR) (s:St) (d:Option Tmp):St:=((s.Zl r.dm).OH r.H).put d r.x.den
inductive EK where
 |i
 |s
 |b
def gE:List EK->List Value->List Value->Option Bool
 |[],[],[]=>some true
 | .i::ks,.int .i64 a::vs,.int .i64 b::us=>match gE ks vs us with
  |some r=>some (decide (a=b)&&r)
  |none=>none
 | .s::ks,.string a::vs,.string b::us=>match gE ks vs us with
  |some r=>some ((a.toList==b.toList)&&r)
  |none=>none
 | .b::ks,.bool a::vs,.bool b::us=>match gE ks vs us with
  |some r=>some ((a==b)&&r)
  |none=>none
 |_,_,_=>none
def uF {vs us:List Value} {r:Bool} (h:gE [] vs us=some r):vs=[]/\us=[]/\r=true:=by
 unfold gE at h;split at h<;>simp_all
def sN {ks:List EK} {vs us:List Value} {r:Bool} (h:gE (.i::ks) vs us=some r): ∃ a O9 b WV q,vs= .int .i64 a::O9/\us= .int .i64 b::WV/\gE ks O9 WV=some q/\r=(decide (a=b)&&q):=by
 unfold gE at h;split at h
 ·rename_i h0;cases h0
 next h0=>
  injection h0 with _ h0;subst h0;split at h
  next q hq=>
   injection h with h;exact⟨_,_,_,_,q,rfl,rfl,hq,h.symm⟩
  ·cases h
 ·rename_i h0;cases h0
 ·rename_i h0;cases h0
 ·cases h
def afc {ks:List EK} {vs us:List Value} {r:Bool} (h:gE (.s::ks) vs us=some r): ∃ a O9 b WV q,vs= .string a::O9/\us= .string b::WV/\gE ks O9 WV=some q/\r=((a.toList==b.toList)&&q):=by
 unfold gE at h;split at h
 ·rename_i h0;cases h0
 ·rename_i h0;cases h0
 next h0=>
  injection h0 with _ h0;subst h0;split at h
  next q hq=>
   injection h with h;exact⟨_,_,_,_,q,rfl,rfl,hq,h.symm⟩
  ·cases h
 ·rename_i h0;cases h0
 ·cases h
def We {ks:List EK} {vs us:List Value} {r:Bool} (h:gE (.b::ks) vs us=some r): ∃ a O9 b WV q,vs= .bool a::O9/\us= .bool b::WV/\gE ks O9 WV=some q/\r=((a==b)&&q):=by
 unfold gE at h;split at h
 ·rename_i h0;cases h0
 ·rename_i h0;cases h0
 ·rename_i h0;cases h0
 next h0=>
  injection h0 with _ h0;subst h0;split at h
  next q hq=>
   injection h with h;exact⟨_,_,_,_,q,rfl,rfl,hq,h.symm⟩
  ·cases h
 ·cases h
def FL (P:Program) (t:TypeId) (ks:List EK):Prop:=P.eqGuardType P.depth t=false/\ ∀ (vs us:List Value) (r:Bool),gE ks vs us=some r-> ∀ w,(binOp .eql t (.agg vs.toArray) (.agg us.toArray)).run P w= .ok (.bool r) w/\(binOp .neq t (.agg vs.toArray) (.agg us.toArray)).run P w= .ok (.bool !r) w
def Qf (P:Program):List (Nat×List EK)->Prop
 |[]=>True
 |p::l=>FL P p.1 p.2/\Qf P l
def Cr {P:Program}: ∀ {l:List (Nat×List EK)},Qf P l-> ∀ p∈l,FL P p.1 p.2
 |[],_,p,hp=>by cases hp
 |q::l,h,p,hp=>by
  rcases acB.1 hp with rfl|hp
  ·exact h.1
  ·exact Cr h.2 p hp
structure Tb:Type 1 where
 sz:List (Nat×Bool×Nat)
 fo:List (Nat×List (Option Nat))
 fa:List (Nat×List (Nat×Option (Bool×Nat)))
 es:List (Nat×Nat)
 ms:List (Nat×Nat×Nat×List SC)
 bi:List (Nat×List SC×Pl)
 ze:List (Nat×List SC)
 st:List Nat
 it:List (Nat×IntKind)
 sl:List (Nat×Nat)
 eq:List (Nat×List EK)
 cb:List (Nat×Nat)
 qt:Bool
def kI {β:Type _}:List (Nat×β)->Nat->Option β
 |[],_=>none
 |(d,e)::l,t=>match abO d t with
  |true=>some e
  |false=>kI l t
def BO:List Nat->Nat->Bool
 |[],_=>false
 |d::l,t=>match abO d t with
  |true=>true
  |false=>BO l t
def fZ {β:Type _}: ∀ {l:List (Nat×β)} {t:Nat} {r:β},kI l t=some r->(t,r)∈l
 |[],t,r,h=>by cases h
 |(d,e)::l,t,r,h=>by
  unfold kI at h;split at h
  next hb=>
   cases h;rw[abg hb];exact afi ..
  ·exact ab2 _ (fZ h)
def Ht: ∀ {l:List Nat} {t:Nat},BO l t=true->t∈l
 |[],t,h=>by cases h
 |d::l,t,h=>by
  unfold BO at h;split at h
  next hb=>
   rw[abg hb];exact afi ..
  ·exact ab2 _ (Ht h)
structure Tb.Ok (T:Tb) (P:Program):Prop where
 sz:(T.sz.map fun p=>rW P p.1)=T.sz.map fun p=>some p.2
 fo:(T.fo.map fun p=>(acD p.2.length).map fun f=>qH P p.1 f)=T.fo.map fun p=>p.2
 fa:(T.fa.map fun p=>(acD p.2.length).map fun f=>Cv P p.1 f)=T.fa.map fun p=>p.2.map some
 es:(T.es.map fun p=>bK P p.1)=T.es.map fun p=>some p.2
 ms:(T.ms.map fun p=>eS P p.1)=T.ms.map fun p=>some (p.2.1,p.2.2.1,bw p.2.2.2)
 bi:(T.bi.map fun p=>bInfo P p.1)=T.bi.map fun p=>some (bw p.2.1,p.2.2)
 ze:(T.ze.map fun p=>vC P p.1)=T.ze.map fun p=>some (bw p.2)
 st:(T.st.map fun t=>P.underlying t)=T.st.map fun _=>some .string
 it:(T.it.map fun p=>P.underlying p.1)=T.it.map fun p=>some (.int p.2)
 sl:(T.sl.map fun p=>P.underlying p.1)=T.sl.map fun p=>some (.slice p.2)
 eq:Qf P T.eq
 cb:(T.cb.map fun p=>rL P p.1 p.2)=T.cb.map fun _=>true
def g7 {α β:Type _} {f g:α->β}: ∀ {l:List α},l.map f=l.map g-> ∀ x∈l,f x=g x
 |[],_,x,h=>by cases h
 |y::l,e,x,h=>by
  simp only[abh]at e;injection e with e1 e2;rcases acB.1 h with rfl|h
  ·exact e1
  ·exact g7 e2 x h
section
variable {T:Tb} {P:Program} (O:T.Ok P)
include O
def Tb.Ok.MQ {t:Nat} {r:Bool×Nat} (h:kI T.sz t=some r):rW P t=some r:=g7 O.sz _ (fZ h)
def Tb.Ok.sO {t:Nat} {r:Nat} (h:kI T.es t=some r):bK P t=some r:=g7 O.es _ (fZ h)
def Tb.Ok.Ra {t:Nat} {a b:Nat} {z:List SC} (h:kI T.ms t=some (a,b,z)):eS P t=some (a,b,bw z):=g7 O.ms _ (fZ h)
def Tb.Ok.aaj {t:Nat} {z:List SC} {p:Pl} (h:kI T.bi t=some (z,p)):bInfo P t=some (bw z,p):=g7 O.bi _ (fZ h)
def Tb.Ok.acy {t:Nat} {z:List SC} (h:kI T.ze t=some z):vC P t=some (bw z):=g7 O.ze _ (fZ h)
def Tb.Ok.SD {t:Nat} (h:BO T.st t=true):P.underlying t=some .string:=g7 O.st _ (Ht h)
def Tb.Ok.Md {t:Nat} {k:IntKind} (h:kI T.it t=some k):P.underlying t=some (.int k):=g7 O.it _ (fZ h)
def Tb.Ok.ab3 {t:Nat} {e:Nat} (h:kI T.sl t=some e):P.underlying t=some (.slice e):=g7 O.sl _ (fZ h)
def Tb.Ok.aaF {t:Nat} {ks:List EK} (h:kI T.eq t=some ks):FL P t ks:=Cr O.eq _ (fZ h)
def Tb.Ok.aam {t u:Nat} (h:kI T.cb t=some u):rL P t u=true:=g7 O.cb _ (fZ h)
def Tb.Ok.aaL {t f k:Nat} {l:List (Option Nat)} (h:kI T.fo t=some l) (h2:l[f]? =some (some k)):qH P t f=some k:=by
 have h1:=g7 O.fo _ (fZ h);simp only at h1;have h3:((acD l.length).map fun f=>qH P t f)[f]? =some (some k):=by rw[h1];exact h2
 rw[abj]at h3
 have⟨j,hj,e⟩:=abz.1 h3
 have:=acZ (n:=l.length) (i:=f) (by
  rcases acC f l.length with h|h
  ·exact h
  ·rw[abw h]at h2;cases h2)
 rw[this]at hj
 cases hj;exact e
def Tb.Ok.aaI {t f:Nat} {r:Nat×Option (Bool×Nat)} {l:List (Nat×Option (Bool×Nat))} (h:kI T.fa t=some l) (h2:l[f]? =some r):Cv P t f=some r:=by
 have h1:=g7 O.fa _ (fZ h);simp only at h1;have h3:((acD l.length).map fun f=>Cv P t f)[f]? =some (some r):=by rw[h1,abj,h2];rfl
 rw[abj]at h3
 have⟨j,hj,e⟩:=abz.1 h3
 have:=acZ (n:=l.length) (i:=f) (by
  rcases acC f l.length with h|h
  ·exact h
  ·rw[abw h]at h2;cases h2)
 rw[this]at hj
 cases hj;exact e
end
def sy {α:Type}:List α->Nat->Option α
 |[],_=>none
 |x::_,0=>some x
 |_::l,n+1=>sy l n
def jN {α:Type}: ∀ (l:List α) (n:Nat),sy l n=l[n]?
 |[],n=>by simp[sy]
 |x::l,0=>by simp[sy]
 |x::l,n+1=>by simp[sy,jN l n]
def B7 (z:Nat) (F:α->List au) (V:α->List SC):Prop:= ∀ x,(F x).length=z/\bw (V x)=(F x).map ab.f
def B7.nth {α:Type} {z:Nat} {F:α->List au} {V:α->List SC} (h:B7 z F V) {x:α} {k:Nat} {y:SC} (hy:nth (V x) k=some y):k<z/\ ∃ fv,(F x)[k]? =some fv/\y.den= .f fv:=by
 have⟨h1,h2⟩:=h x;have h3:=jO hy;rw[h2,abj]at h3
 have⟨fv,h4,h5⟩:=abz.1 h3;refine⟨?_,fv,h4,h5.symm⟩;have:=(abq.1 h4).1;omega
abbrev iV (k:IntKind) (n:Int):SV:= .c (.c (.f (.v (.int k n))))
abbrev bV (b:Bool):SV:= .c (.c (.f (.v (.bool b))))
abbrev sV (b:ByteArray):SV:= .c (.c (.f (.v (.string b))))
def p9 (P:Program) (ops:Array Oper) (o:Oper) (s:St) (r:SR):Prop:= ∀ (rest:List Oper) (R:Rg),r.p->WR P ops rest (r.fq s o.dst) (R.push r.cl)->WR P ops (o::rest) s R
section
variable {P:Program} {ops:Array Oper} {s:St} {d:Option Tmp} {ty:TypeId} {pos:String} {af:Array Edge} {T:Tb} {r:SR}
def wK (tr:Bool) (x:Operand) (v:SV):Option SR:=
 match v with
 | .c (.c (.mp _ _))=>none
 | .c (.c (.bB false z cs n))=>match x with
  | .tmp t=>match tr with
   |true=>some ⟨.c (.c (.bB false z cs n)),some (t,.v (.c (.c (.f (.row [] n))))),none,.dm,True⟩
   |false=>some ⟨.c (.c (.f (.row [] n))),none,none,.q0,True⟩
  |_=>none
 | .c (.dr z F V M e l)=>match x with
  | .tmp t=>match tr with
   |true=>some ⟨.c (.dr z F V M e l),some (t,.v (.c (.c (.f (.row [] l.length))))),none,.dm,True⟩
   |false=>some ⟨.c (.c (.f (.row [] l.length))),none,none,.q0,True⟩
  |_=>none
 | .c (.c (.bB true z cs n))=>match x with
  | .tmp t=>match tr with
   |true=>some ⟨.c (.c (.bB true z cs n)),some (t,.v (.c (.c (.f (.row cs n))))),none,.dm,True⟩
   |false=>some ⟨.c (.c (.f (.row cs n))),none,none,.q0,True⟩
  |_=>none
 | .c (.cX z F V M e l)=>match x with
  | .tmp t=>match tr with
   |true=>some ⟨.c (.cX z F V M e l),some (t,.v (.c (.row z F V e l))),none,.dm,True⟩
   |false=>some ⟨.c (.row z F V e l),none,none,.q0,True⟩
  |_=>none
 | .c x=>some ⟨.c x,none,none,.q0,True⟩
 | .agg l=>some ⟨.agg l,none,none,.q0,True⟩
 | .dt l=>some ⟨.dt l,none,none,.q0,True⟩
def WE:SC->Prop
 | .c (.bB ..)=>False
 | .c (.mp ..)=>False
 | .cX .. =>False
 | .dr .. =>False
 |_=>True
def oC {x:SC} (h0: ∀ z cs n,x= .c (.bB false z cs n)->False) (h4: ∀ q es,x= .c (.mp q es)->False) (h3: ∀ (α:Type) (z:Nat) (F:α->List au) (V:α->List SC) (M:List au->Option α) (d:α) (l:List α),x= .dr z F V M d l->False) (h: ∀ z cs n,x= .c (.bB true z cs n)->False) (h2: ∀ (α:Type) (z:Nat) (F:α->List au) (V:α->List SC) (M:List au->Option α) (d:α) (l:List α),x= .cX z F V M d l->False):WE x:=by
 cases x with
 |c x=>
  cases x with
  |bB q=>
   cases q with
   |true=>exact(h _ _ _ rfl).elim
   |false=>exact(h0 _ _ _ rfl).elim
  |mp=>exact(h4 _ _ rfl).elim
  |_=>trivial
 |dr=>exact(h3 _ _ _ _ _ _ _ rfl).elim
 |cX=>exact(h2 _ _ _ _ _ _ _ rfl).elim
 |_=>trivial
def v9 {x:SC} (h:WE x):x.den.flat=true:=by
 cases x with
 |c x=>cases x<;>first|rfl|exact h.elim
 |dr=>exact h.elim
 |cX=>exact h.elim
 |_=>rfl
def OP {x:Operand} {v:SV} (hx:s.ev x=v.den) (h:wK (gb ops ⟨d,.move x,ty,pos,af,none⟩) x v=some r):p9 P ops ⟨d,.move x,ty,pos,af,none⟩ s r:=by
 intro rest R hp hk;unfold wK at h;split at h
 ·cases h
 ·split at h
  ·split at h
   next hf=>
    cases h;exact oS hf hx hk
   next hf=>
    cases h;exact oR hf hx hk
  ·cases h
 ·split at h
  ·split at h
   next hf=>
    cases h;exact oS hf hx hk
   next hf=>
    cases h;exact oR hf hx hk
  ·cases h
 ·split at h
  ·split at h
   next hf=>
    cases h;exact oS hf hx hk
   next hf=>
    cases h;exact oR hf hx hk
  ·cases h
 ·split at h
  ·split at h
   next hf=>
    cases h;exact oS hf hx hk
   next hf=>
    cases h;exact oR hf hx hk
  ·cases h
 next x' L7 hn0 sq hne wc=>
  cases h;exact yO hx (v9 (oC (fun z cs n e=>hn0 z cs n (by rw[e])) (fun q es e=>L7 q es (by rw[e])) (fun α z F V M d l e=>sq α z F V M d l (by rw[e])) (fun z cs n e=>hne z cs n (by rw[e])) (fun α z F V M d l e=>wc α z F V M d l (by rw[e])))) hk
 ·cases h
  exact yO hx rfl hk
 ·cases h
  exact yO hx rfl hk
def IG {x:Operand} {v:SV} (hx:s.ev x=v.den) (h:wK true x v=some r):p9 P ops ⟨d,.assign x,ty,pos,af,none⟩ s r:=by
 intro rest R hp hk;unfold wK at h;split at h
 ·cases h
 ·split at h
  ·cases h
   exact lF hx hk
  ·cases h
 ·split at h
  ·cases h
   exact lF hx hk
  ·cases h
 ·split at h
  ·cases h
   exact lF hx hk
  ·cases h
 ·split at h
  ·cases h
   exact lF hx hk
  ·cases h
 next x' L7 hn0 sq hne wc=>
  cases h;exact yL hx (v9 (oC (fun z cs n e=>hn0 z cs n (by rw[e])) (fun q es e=>L7 q es (by rw[e])) (fun α z F V M d l e=>sq α z F V M d l (by rw[e])) (fun z cs n e=>hne z cs n (by rw[e])) (fun α z F V M d l e=>wc α z F V M d l (by rw[e])))) hk
 ·cases h
  exact yL hx rfl hk
 ·cases h
  exact yL hx rfl hk
def Sq (v:SV):Option SR:=
 match v with
 | .c (.c (.ptr b off))=>some ⟨.c (.c (.ptr b off)),none,none,.q0,True⟩
 | .c (.c (.ip cs off))=>some ⟨.c (.c (.ip cs off)),none,none,.q0,True⟩
 | .c (.Cq z F V d l i k)=>some ⟨.c (.Cq z F V d l i k),none,none,.q0,True⟩
 | .c (.Bu b z i k)=>some ⟨.c (.Bu b z i k),none,none,.q0,True⟩
 |_=>none
def Sr {x:Operand} {v:SV} (hx:s.ev x=v.den) (h:Sq v=some r):p9 P ops ⟨d,.nilCheck x,ty,pos,af,none⟩ s r:=by
 intro rest R hp hk;unfold Sq at h;split at h<;>first|(cases h;done)|(cases h)
 ·exact B4 hx hk
 ·exact FT hx hk
 ·exact FT hx hk
 ·exact B4 hx hk
def Y3 (T:Tb) (t f:Nat) (v:SV):Option SR:=
 match kI T.fo t with
 |some l=>match sy l f with
  |some (some j)=>match v with
   | .c (.c (.ptr b off))=>some ⟨.c (.c (.ptr b (off+j))),none,none,.q0,True⟩
   | .c (.c (.ip cs off))=>some ⟨.c (.c (.ip cs (off+j))),none,none,.q0,True⟩
   | .c (.Cq z F V d l i k)=>some ⟨.c (.Cq z F V d l i (k+j)),none,none,.q0,True⟩
   | .c (.Bu b z i k)=>some ⟨.c (.Bu b z i (k+j)),none,none,.q0,True⟩
   |_=>none
  |_=>none
 |none=>none
def Vz (O:T.Ok P) {t f:Nat} {x:Operand} {v:SV} (hx:s.ev x=v.den) (h:Y3 T t f v=some r):p9 P ops ⟨d,.fieldAddr t x f,ty,pos,af,none⟩ s r:=by
 intro rest R hp hk;unfold Y3 at h;split at h
 next l hl=>
  split at h
  next j hj=>
   rw[jN]at hj
   have hf:=O.aaL hl hj;split at h<;>first|(cases h;done)|(cases h)
   ·exact kN hf hx rfl hk
   ·exact Lb hf hx rfl hk
   ·exact Lb hf hx (afD ..) hk
   ·exact kN hf hx (afD ..) hk
  ·cases h
 ·cases h
end
def jr {α β:Type 1}:List α->Nat->α->(List α->Option β)->Option β
 |[],_,_,_=>none
 |_::l,0,x,k=>k (x::l)
 |y::l,n+1,x,k=>jr l n x fun r=>k (y::r)
def dh {α β:Type 1} {x:α} {r:β}: ∀ {l:List α} {n:Nat} {k:List α->Option β},jr l n x k=some r->n<l.length/\k (l.set n x)=some r
 |[],_,_,h=>by cases h
 |y::l,0,k,h=>⟨by simp,h⟩
 |y::l,n+1,k,h=>by
  have⟨h1,h2⟩:=dh (l:=l) (n:=n) h;exact⟨by simp;exact h1,by simpa using h2⟩
def IF {β:Type 1}:List SC->Nat->List SC->(List SC->Option β)->Option β
 |l,_,[],k=>k l
 |l,n,x::xs,k=>jr l n x fun r=>IF r (n+1) xs k
def A6 {β:Type 1} {r:β} {k:List SC->Option β}: ∀ {xs l:List SC} {n:Nat},IF l n xs k=some r->n+xs.length<=l.length\/xs=[]-> ∃ l',bw l'=setAt (bw l) n (bw xs)/\k l'=some r
 |[],l,n,h,_=>⟨l,rfl,h⟩
 |x::xs,l,n,h,hn=>by
  have⟨h1,h2⟩:=dh h
  have⟨l',h3,h4⟩:=A6 (xs:=xs) (l:=l.set n x) (n:=n+1) h2 (by
   rcases hn with hn|hn
   ·left;simp at hn⊢;omega
   ·cases hn)
  refine⟨l',?_,h4⟩;rw[h3];simp[bw,setAt,acJ]
def wI {β:Type 1} {r:β} {k:List SC->Option β}: ∀ {xs l:List SC} {n:Nat},IF l n xs k=some r->xs=[]\/n+xs.length<=l.length
 |[],l,n,h=> .inl rfl
 |x::xs,l,n,h=>by
  have⟨h1,h2⟩:=dh h;right;rcases wI h2 with rfl|h3
  ·simp[acY,List.length_nil];omega
  ·simp at h3⊢;omega
def jy {H:SH} {b:Nat} {x:SB}:bh (H.set b (some x))=fN (bh H) b x.den:=by
 simp[bh,fN,acJ,ob]
def adi:SC->SC
 | .c (.bB true _ cs n)=> .c (.f (.row cs n))
 | .c (.bB false _ _ n)=> .c (.f (.row [] n))
 | .c (.mp _ _)=> .c .any
 | .dr _ _ _ _ _ l=> .c (.f (.row [] l.length))
 | .cX z F V M d l=> .row z F V d l
 | .c x=> .c x
 | .row z F V d l=> .row z F V d l
 | .Cq z F V d l i k=> .Cq z F V d l i k
 | .Bu b z i k=> .Bu b z i k
def Qb: ∀ x:SC,(adi x).den=x.den.aZ
 | .c (.bB true ..)=>rfl
 | .c (.bB false ..)=>rfl
 | .c (.mp ..)=>rfl
 | .c (.f _)=>rfl
 | .c (.ptr ..)=>rfl
 | .c (.arr ..)=>rfl
 | .c .tV=>rfl
 | .c .any=>rfl
 | .c (.mh _)=>rfl
 | .dr .. =>rfl
 | .row .. =>rfl
 | .Cq .. =>rfl
 | .Bu .. =>rfl
 | .cX .. =>rfl
def zw {β:Type 1}:List SC->(List SC->Option β)->Option β
 |[],k=>k []
 |x::l,k=>match x with
  | .c (.bB false _ _ n)=>zw l fun r=>k (.c (.f (.row [] n))::r)
  | .c (.mp _ _)=>zw l fun r=>k (.c .any::r)
  | .dr _ _ _ _ _ l'=>zw l fun r=>k (.c (.f (.row [] l'.length))::r)
  | .c (.bB true _ cs n)=>zw l fun r=>k (.c (.f (.row cs n))::r)
  | .cX z F V M d l'=>zw l fun r=>k (.row z F V d l'::r)
  |y=>zw l fun r=>k (y::r)
def lI {β:Type 1} {r:β}: ∀ {l:List SC} {k:List SC->Option β},zw l k=some r-> ∃ l',bw l'=(bw l).map ab.aZ/\k l'=some r
 |[],k,h=>⟨[],rfl,h⟩
 |x::l,k,h=>by
  unfold zw at h;split at h
  ·have⟨l',h1,h2⟩:=lI h
   exact⟨_,by simp only[bw,abh]at*;rw[h1];rfl,h2⟩
  ·have⟨l',h1,h2⟩:=lI h
   exact⟨_,by simp only[bw,abh]at*;rw[h1];rfl,h2⟩
  ·have⟨l',h1,h2⟩:=lI h
   exact⟨_,by simp only[bw,abh]at*;rw[h1];rfl,h2⟩
  ·have⟨l',h1,h2⟩:=lI h
   exact⟨_,by simp only[bw,abh]at*;rw[h1];rfl,h2⟩
  ·have⟨l',h1,h2⟩:=lI h
   exact⟨_,by simp only[bw,abh]at*;rw[h1];rfl,h2⟩
  next hn0 L7 sq hne wc=>
   have⟨l',h1,h2⟩:=lI h;refine⟨_,?_,h2⟩;simp only[bw,abh]at*;rw[h1,← Qb];congr 1;cases x with
   |c x=>
    cases x with
    |bB q=>
     cases q with
     |true=>exact(hne _ _ _ rfl).elim
     |false=>exact(hn0 _ _ _ rfl).elim
    |mp=>exact(L7 _ _ rfl).elim
    |_=>rfl
   |dr=>exact(sq _ _ _ _ _ _ _ rfl).elim
   |cX=>exact(wc _ _ _ _ _ _ _ rfl).elim
   |_=>rfl
def Am {l:List ab} {i:Nat} {y:ab} (h:l[i]? =some y):l.modify i ab.aZ=l.set i y.aZ:=by
 apply acR;intro j;rw[adC,ac7];by_cases e:i=j
 ·subst e
  rw[h];have:=(abq.1 h).1;simp[this]
 ·simp[e]
def TY {l m:List ab} {i:Nat} {y:ab} (h:l[i]? =some y):(l++m)[i]? =some y:=by
 rw[abr (abq.1 h).1];exact h
def TX {l m:List ab} {i n:Nat} (h:i+n<=l.length):((l++m).drop i).take n=(l.drop i).take n:=by
 rw[aet (by omega),adB (by rw[acX];omega)]
def iw {l:List α} {d:α} {i:Int} (h0:0<=i) (h1:i<l.length):l[i.toNat]? =some (l.getD i.toNat d):=by
 have:i.toNat<l.length:=by omega
 rw[GD,GE this];rfl
section
variable {P:Program} {ops:Array Oper} {s:St} {d:Option Tmp} {ty:TypeId} {pos:String} {af:Array Edge} {T:Tb} {r:SR} {H:SH}
def KW (T:Tb) (tr:Bool) (H:SH) (t:Nat) (v:SV):Option SR:=
 match kI T.sz t with
 |some (false,_)=>match v with
  | .c (.c (.ptr b off))=>match nth H b with
   |some (some (.cells cs))=>match nth cs off with
    |some (.c (.bB false _ _ _))=>none
    |some (.c (.mp _ _))=>none
    |some (.dr z F V M e l)=>match tr with
     |true=>jr cs off (.c (.f (.row [] l.length))) fun cs'=>jr H b (some (.cells cs')) fun H'=>some ⟨.c (.dr z F V M e l),none,some H',.tk b,True⟩
     |false=>some ⟨.c (.c (.f (.row [] l.length))),none,none,.ld false b,True⟩
    |some (.c (.bB true z gs n))=>match tr with
     |true=>jr cs off (.c (.f (.row gs n))) fun cs'=>jr H b (some (.cells cs')) fun H'=>some ⟨.c (.c (.bB true z gs n)),none,some H',.tk b,True⟩
     |false=>some ⟨.c (.c (.f (.row gs n))),none,none,.ld false b,True⟩
    |some (.cX z F V M e l)=>match tr with
     |true=>jr cs off (.row z F V e l) fun cs'=>jr H b (some (.cells cs')) fun H'=>some ⟨.c (.cX z F V M e l),none,some H',.tk b,True⟩
     |false=>some ⟨.c (.row z F V e l),none,none,.ld false b,True⟩
    |some y=>match tr with
     |true=>some ⟨.c y,none,none,.ld true b,True⟩
     |false=>some ⟨.c y,none,none,.ld false b,True⟩
    |none=>none
   |_=>none
  | .c (.c (.ip cs off))=>match sy cs off with
   |some y=>some ⟨.c (.c (.f y)),none,none,.ip,True⟩
   |none=>none
  | .c (.Cq z F V d l i k)=>match nth (V (l.getD i.toNat d)) k with
   |some y=>some ⟨.c y,none,none,.ip,(0<=i/\i<l.length)/\B7 z F V⟩
   |none=>none
  | .c (.Bu b z i k)=>match nth H b with
   |some (some (.bF z' F V M d l))=>match abO z z' with
    |true=>match nth (V (l.getD i.toNat d)) k with
     |some y=>match tr with
      |true=>none
      |false=>some ⟨.c y,none,none,.ld false b,(0<=i/\i<l.length)/\B7 z' F V⟩
     |none=>none
    |false=>none
   |some (some (.gn z' F V M d l m))=>match abO z z' with
    |true=>match nth (V (l.getD i.toNat d)) k with
     |some y=>match tr with
      |true=>none
      |false=>some ⟨.c y,none,none,.ld false b,(0<=i/\i<l.length)/\B7 z' F V⟩
     |none=>none
    |false=>none
   |some (some (.rws z' F V M d l h))=>match z with
    |1=>match k with
     |0=>match h with
      |none=>match tr with
       |true=>jr H b (some (.rws z' F V M d l (some (i,.c (.f (.row [] (l.getD i.toNat []).length)))))) fun H'=>some ⟨.c (.dr z' F V M d (l.getD i.toNat [])),none,some H',.tk b,0<=i/\i<l.length⟩
       |false=>some ⟨.c (.c (.f (.row [] (l.getD i.toNat []).length))),none,none,.ld false b,0<=i/\i<l.length⟩
      |some (j,.c (.arr b' off m c))=>match tr with
       |true=>some ⟨.c (.c (.arr b' off m c)),none,none,.ld true b,(0<=i/\i<l.length)/\i=j⟩
       |false=>some ⟨.c (.c (.arr b' off m c)),none,none,.ld false b,(0<=i/\i<l.length)/\i=j⟩
      |some (j,.dr z2 F2 V2 M2 d2 l2)=>match tr with
       |true=>jr H b (some (.rws z' F V M d l (some (i,.c (.f (.row [] l2.length)))))) fun H'=>some ⟨.c (.dr z2 F2 V2 M2 d2 l2),none,some H',.tk b,(0<=i/\i<l.length)/\i=j⟩
       |false=>some ⟨.c (.c (.f (.row [] l2.length))),none,none,.ld false b,(0<=i/\i<l.length)/\i=j⟩
      |_=>none
     |_=>none
    |_=>none
   |_=>none
  |_=>none
 |some (true,n)=>match v with
  | .c (.c (.ptr b off))=>match nth H b with
   |some (some (.cells cs))=>match Rd cs with
    |true=>JN cs off n fun ds=>zw ds fun es=>match tr with
     |true=>some ⟨.agg es,none,none,.ld true b,True⟩
     |false=>some ⟨.agg es,none,none,.ld false b,True⟩
    |false=>none
   |_=>none
  | .c (.Cq z F V d l i k)=>JN (V (l.getD i.toNat d)) k n fun ds=>some ⟨.agg ds,none,none,.ip,(0<=i/\i<l.length)/\B7 z F V⟩
  | .c (.Bu b z i k)=>match nth H b with
   |some (some (.bF z' F V M d l))=>match abO z z' with
    |true=>match tr with
     |true=>none
     |false=>JN (V (l.getD i.toNat d)) k n fun ds=>some ⟨.agg ds,none,none,.ld false b,(0<=i/\i<l.length)/\B7 z' F V⟩
    |false=>none
   |some (some (.gn z' F V M d l m))=>match abO z z' with
    |true=>match tr with
     |true=>none
     |false=>JN (V (l.getD i.toNat d)) k n fun ds=>some ⟨.agg ds,none,none,.ld false b,(0<=i/\i<l.length)/\B7 z' F V⟩
    |false=>none
   |_=>none
  |_=>none
 |none=>none
def Es {z:Nat} {V:α->List SC} {e:α} {l:List α} {i:Int} {k:Nat} {y:SC} (hV:B7 z F V) (h0:0<=i/\i<l.length) (hy:nth (V (l.getD i.toNat e)) k=some y):
  ∃ fv,(l.flatMap F)[i.toNat*z+k]? =some fv/\y.den= .f fv:=by
 have⟨hk,fv,h1,h2⟩:=hV.nth hy;exact⟨fv,by rw[nr F z (fun x=>(hV x).1) l _ k _ (iw h0.1 h0.2) hk,h1],h2⟩
def Er {z:Nat} {V:α->List SC} {e:α} {l:List α} {i:Int} {k n:Nat} (hV:B7 z F V) (h0:0<=i/\i<l.length) (hn:k+n<=(V (l.getD i.toNat e)).length):
  i.toNat*z+k+n<=(l.flatMap F).length/\(((l.flatMap F).drop (i.toNat*z+k)).take n).map ab.f=bw (((V (l.getD i.toNat e)).drop k).take n):=by
 have⟨h1,h2⟩:=iF F z (fun x=>(hV x).1) l i.toNat _ (iw (d:=e) h0.1 h0.2);have⟨h3,h4⟩:=hV (l.getD i.toNat e);have h5:(V (l.getD i.toNat e)).length=z:=by rw[← gC,h4,abk,h3]
 rw[h5]at hn
 refine⟨by omega,?_⟩;rw[← yh,h4,← h2,adw,adx,adw,adx];rw[List.drop_take,afs,← afx,aft (by omega)]
def OL (O:T.Ok P) (hH:s.H=bh H) {t:Nat} {x:Operand} {v:SV} (hx:s.ev x=v.den) (h:KW T (gb ops ⟨d,.load t x,ty,pos,af,none⟩) H t v=some r):p9 P ops ⟨d,.load t x,ty,pos,af,none⟩ s r:=by
 intro rest R hp hk;unfold KW at h;split at h
 next m hsz=>
  have ht:=O.MQ hsz;split at h
  next b off=>
   split at h
   next cs hb=>
    have hb':s.H[b]? =some (some (bw cs)):=by rw[hH];exact eK hb
    split at h
    ·cases h
    ·cases h
    next α z F V M e l hy=>
     have xY:=jO hy;split at h
     next hf=>
      have⟨h1,h2⟩:=dh h;have⟨h3,h4⟩:=dh h2;cases h4;refine mD hf ht hx hb' xY ?_ hk;rw[jy,hH];congr 1;simp[SB.den,bw,acJ];apply acR;intro j;have h5:cs[off]? =some (SC.dr z F V M e l):=by rw[← jP];exact hy
      rw[adC,ac7,abk];by_cases e:off=j
      ·subst e
       rw[abj,h5];simp[h1,SC.den,ab.aZ]
      ·simp[e]
     next hf=>
      cases h;exact mC hf ht hx hb' xY rfl hk
    next z gs n hy=>
     have xY:=jO hy;split at h
     next hf=>
      have⟨h1,h2⟩:=dh h;have⟨h3,h4⟩:=dh h2;cases h4;refine mD hf ht hx hb' xY ?_ hk;rw[jy,hH];congr 1;simp[SB.den,bw,acJ];apply acR;intro j;have h5:cs[off]? =some (SC.c (.bB true z gs n)):=by rw[← jP];exact hy
      rw[adC,ac7,abk];by_cases e:off=j
      ·subst e
       rw[abj,h5];simp[h1,SC.den,ab.aZ]
      ·simp[e]
     next hf=>
      cases h;exact mC hf ht hx hb' xY rfl hk
    next α z F V M e l hy=>
     have xY:=jO hy;split at h
     next hf=>
      have⟨h1,h2⟩:=dh h;have⟨h3,h4⟩:=dh h2;cases h4;refine mD hf ht hx hb' xY ?_ hk;rw[jy,hH];congr 1;simp[SB.den,bw,acJ];apply acR;intro j;have h5:cs[off]? =some (SC.cX z F V M e l):=by rw[← jP];exact hy
      rw[adC,ac7,abk];by_cases e:off=j
      ·subst e
       rw[abj,h5];simp[h1,SC.den,ab.aZ]
      ·simp[e]
     next hf=>
      cases h;exact mC hf ht hx hb' xY rfl hk
    next y hn0 L7 sq hne wc hy=>
     have J8:=v9 (oC (x:=y) (fun z gs n e=>hn0 z gs n e) (fun q es e=>L7 q es e) (fun α z F V M d l e=>sq α z F V M d l e) (fun z gs n e=>hne z gs n e) (fun α z F V M d l e=>wc α z F V M d l e));split at h
     next hf=>
      cases h;refine eo ht hx hb' (jO hy) J8 ?_;rw[hf];exact hk
     next hf=>
      cases h;refine eo ht hx hb' (jO hy) J8 ?_;rw[hf];exact hk
    ·cases h
   ·cases h
  next cs off=>
   split at h
   next y hy=>
    rw[jN]at hy
    cases h;exact yN ht hx hy hk
   ·cases h
  next α z F V e l i k=>
   split at h
   next y hy=>
    cases h;have⟨h0,hV⟩:=hp;have⟨fv,h1,h2⟩:=Es hV h0 hy;refine yN ht hx h1 ?_;rw[← h2];exact hk
   ·cases h
  next b z i k=>
   split at h
   next α z' F V M e l hb=>
    have hb':s.H[b]? =some (some ((l.flatMap F).map ab.f)):=by rw[hH];exact eK hb
    split at h
    next hz=>
     have hz:=abg hz;subst hz;split at h
     next y hy=>
      split at h
      ·cases h
      next hf=>
       cases h;have⟨h0,hV⟩:=hp;have⟨fv,h1,h2⟩:=Es hV h0 hy;refine eo (y:= .f fv) ht hx hb' (by rw[abj,h1];rfl) rfl ?_;rw[hf,← h2];exact hk
     ·cases h
    ·cases h
   next α z' F V M e l m hb=>
    have hb':s.H[b]? =some (some ((l.flatMap F).map ab.f++abV m .any)):=by rw[hH];exact eK hb
    split at h
    next hz=>
     have hz:=abg hz;subst hz;split at h
     next y hy=>
      split at h
      ·cases h
      next hf=>
       cases h;have⟨h0,hV⟩:=hp;have⟨fv,h1,h2⟩:=Es hV h0 hy;refine eo (y:= .f fv) ht hx hb' (TY (by rw[abj,h1];rfl)) rfl ?_;rw[hf,← h2];exact hk
     ·cases h
    ·cases h
   next α z' F V M e l h' hb=>
    have hb':s.H[b]? =some (some (iW z' F l h')):=by rw[hH];exact eK hb
    split at h
    ·split at h
     ·split at h
      ·split at h
       next hf=>
        have⟨h3,h4⟩:=dh h;cases h4;have xY:=AW (z:=z') (F:=F) hp.1 hp.2;have e1:i.toNat*1+0=i.toNat:=by omega
        refine mD hf ht hx hb' (off:=i.toNat*1+0) (by rw[e1];exact xY) ?_ hk;rw[jy,hH];congr 1;rw[e1];exact Am xY
       next hf=>
        cases h;have xY:=AW (z:=z') (F:=F) hp.1 hp.2;have e1:i.toNat*1+0=i.toNat:=by omega
        exact mC (y:= .bB false z' ((l.getD i.toNat []).flatMap F) (l.getD i.toNat []).length) hf ht hx hb' (off:=i.toNat*1+0) (by rw[e1];exact xY) rfl hk
      ·split at h
       next hf=>
        cases h;obtain⟨h0,rfl⟩:=hp;have e1:i.toNat*1+0=i.toNat:=by omega
        refine eo (off:=i.toNat*1+0) ht hx hb' (by rw[e1];exact oK h0.1 h0.2) (by rfl) ?_;rw[hf];exact hk
       next hf=>
        cases h;obtain⟨h0,rfl⟩:=hp;have e1:i.toNat*1+0=i.toNat:=by omega
        refine eo (off:=i.toNat*1+0) ht hx hb' (by rw[e1];exact oK h0.1 h0.2) (by rfl) ?_;rw[hf];exact hk
      ·split at h
       next hf=>
        have⟨h3,h4⟩:=dh h;cases h4;obtain⟨h0,rfl⟩:=hp;rename_i z2 F2 V2 M2 d2 l2 _;have xY:=oK (z:=z') (F:=F) (x:= .dr z2 F2 V2 M2 d2 l2) h0.1 h0.2;have e1:i.toNat*1+0=i.toNat:=by omega
        refine mD hf ht hx hb' (off:=i.toNat*1+0) (by rw[e1];exact xY) ?_ hk;rw[jy,hH];congr 1;rw[e1,Am xY];exact Da (x:= .c (.f (.row [] _)))
       next hf=>
        cases h;obtain⟨h0,rfl⟩:=hp;rename_i z2 F2 V2 M2 d2 l2 _;have e1:i.toNat*1+0=i.toNat:=by omega
        exact mC (y:= .bB false z2 (l2.flatMap F2) l2.length) hf ht hx hb' (off:=i.toNat*1+0) (by rw[e1];exact oK (x:= .dr z2 F2 V2 M2 d2 l2) h0.1 h0.2) rfl hk
      ·cases h
     ·cases h
    ·cases h
   ·cases h
  ·cases h
 next n hsz=>
  have ht:=O.MQ hsz;split at h
  next b off=>
   split at h
   next cs hb=>
    have hb':s.H[b]? =some (some (bw cs)):=by rw[hH];exact eK hb
    split at h
    next Jd=>
     have⟨h1,h2⟩:=rK h;have⟨es,h3,h4⟩:=lI h2;have hc:((bw cs).drop off |>.take n).map ab.aZ=bw es:=by rw[yh,h3]
     split at h4
     next hf=>
      cases h4;refine nj ht hx hb' ⟨by rw[gC];exact h1,qX Jd⟩ hc ?_;rw[hf];exact hk
     next hf=>
      cases h4;refine nj ht hx hb' ⟨by rw[gC];exact h1,qX Jd⟩ hc ?_;rw[hf];exact hk
    ·cases h
   ·cases h
  next α z F V e l i k=>
   have⟨h1,h2⟩:=rK h;cases h2;have⟨h0,hV⟩:=hp;have⟨h3,h4⟩:=Er hV h0 h1;exact Jk ht hx h3 h4 hk
  next b z i k=>
   split at h
   next α z' F V M e l hb=>
    have hb':s.H[b]? =some (some ((l.flatMap F).map ab.f)):=by rw[hH];exact eK hb
    split at h
    next hz=>
     have hz:=abg hz;subst hz;split at h
     ·cases h
     next hf=>
      have⟨h1,h2⟩:=rK h;cases h2;have⟨h0,hV⟩:=hp;have⟨h3,h4⟩:=Er hV h0 h1;refine nj (cs:=bw (((V (l.getD i.toNat e)).drop k).take n)) ht hx hb' ⟨by rw[abk];exact h3,Az _⟩ ?_ ?_
      ·rw[← h4,← adx,← adw,ae4]
       rfl
      ·rw[hf];exact hk
    ·cases h
   next α z' F V M e l m hb=>
    have hb':s.H[b]? =some (some ((l.flatMap F).map ab.f++abV m .any)):=by rw[hH];exact eK hb
    split at h
    next hz=>
     have hz:=abg hz;subst hz;split at h
     ·cases h
     next hf=>
      have⟨h1,h2⟩:=rK h;cases h2;have⟨h0,hV⟩:=hp;have⟨h3,h4⟩:=Er hV h0 h1;refine nj (cs:=bw (((V (l.getD i.toNat e)).drop k).take n)) ht hx hb' ⟨by rw[acP,abk];omega,lR _ _⟩ ?_ ?_
      ·rw[TX (by rw[abk];exact h3),← h4,← adx,← adw,ae4]
       rfl
      ·rw[hf];exact hk
    ·cases h
   ·cases h
  ·cases h
 ·cases h
end
end Av
def aaQ:=@if_neg
def aaR:=@if_pos
namespace Av
variable {R:Rg} {rest:List Oper} {vs:List au} {κ:Nat->BK} {ρ:Nat->Nat}
def Rq:SC->Bool
 | .c x=>x.one
 |_=>true
def AB: ∀ {x:SC},Rq x=true->x.den.one=true
 | .c x,h=>h
 | .row ..,_=>rfl
 | .Cq ..,_=>rfl
 | .Bu ..,_=>rfl
 | .cX ..,_=>rfl
 | .dr ..,_=>rfl
def vQ:List SC->Bool
 |[]=>true
 |x::l=>match Rq x with
  |true=>vQ l
  |false=>false
def yX: ∀ {l:List SC},vQ l=true->(bw l).all ab.one=true
 |[],_=>rfl
 |x::l,h=>by
  unfold vQ at h;split at h
  next h1=>
   simp only[bw,abh,aeZ,ada];exact⟨AB h1,yX h⟩
  ·cases h
def CN {α:Type 1}:List α->Nat->Bool
 |[],0=>true
 |_::l,n+1=>CN l n
 |_,_=>false
def qQ {α:Type 1}: ∀ {l:List α} {n:Nat},CN l n=true->l.length=n
 |[],0,_=>rfl
 |_::l,n+1,h=>by simp[qQ (l:=l) h]
 |[],_+1,h=>by cases h
 |_::_,0,h=>by cases h
def Up {β:Type 1}:List SC->(List au->Option β)->Option β
 |[],k=>k []
 |x::l,k=>match x with
  | .c (.f .aD)=>Up l fun r=>k (.row [] 0::r)
  | .c (.f y)=>Up l fun r=>k (y::r)
  | .c (.bB true _ cs n)=>Up l fun r=>k (.row cs n::r)
  | .row z F V d l'=>Up l fun r=>k (.row (l'.flatMap F) l'.length::r)
  | .cX z F V M d l'=>Up l fun r=>k (.row (l'.flatMap F) l'.length::r)
  | .Cq z F V d l' i j=>Up l fun r=>k (.ip (l'.flatMap F) (i.toNat*z+j)::r)
  |_=>none
def tw {β:Type 1} {r:β}: ∀ {l:List SC} {k:List au->Option β},Up l k=some r-> ∃ fs,ng (bw l)=some fs/\k fs=some r
 |[],k,h=>⟨[],rfl,h⟩
 |x::l,k,h=>by
  unfold Up at h;split at h
  ·have⟨fs,h1,h2⟩:=tw h
   refine⟨_,?_,h2⟩;simp[bw,abh,ng,SC.den,ab.fz]at*;rw[h1]
  next y hne=>
   have⟨fs,h1,h2⟩:=tw h;refine⟨_,?_,h2⟩;have e:ab.fz (.f y)=some y:=by
    cases y with
    |aD=>exact(hne rfl).elim
    |_=>rfl
   simp[bw,abh,ng,SC.den,e]at*;rw[h1]
  ·have⟨fs,h1,h2⟩:=tw h
   refine⟨_,?_,h2⟩;simp[bw,abh,ng,SC.den,ab.fz]at*;rw[h1]
  ·have⟨fs,h1,h2⟩:=tw h
   refine⟨_,?_,h2⟩;simp[bw,abh,ng,SC.den,ab.fz]at*;rw[h1]
  ·have⟨fs,h1,h2⟩:=tw h
   refine⟨_,?_,h2⟩;simp[bw,abh,ng,SC.den,ab.fz]at*;rw[h1]
  ·have⟨fs,h1,h2⟩:=tw h
   refine⟨_,?_,h2⟩;simp[bw,abh,ng,SC.den,ab.fz]at*;rw[h1]
  ·cases h
def Ti {β:Type 1}:List SC->(List au->Option β)->Option β
 |[],k=>k []
 |x::l,k=>match x with
  | .c (.f y)=>Ti l fun r=>k (y::r)
  | .row z F V d l'=>Ti l fun r=>k (.row (l'.flatMap F) l'.length::r)
  |_=>none
def qF {β:Type 1} {r:β}: ∀ {l:List SC} {k:List au->Option β},Ti l k=some r-> ∃ fs,bw l=fs.map ab.f/\k fs=some r
 |[],k,h=>⟨[],rfl,h⟩
 |x::l,k,h=>by
  unfold Ti at h;split at h
  ·have⟨fs,h1,h2⟩:=qF h
   exact⟨_,by simp[bw,abh,SC.den]at*;rw[h1],h2⟩
  ·have⟨fs,h1,h2⟩:=qF h
   exact⟨_,by simp[bw,abh,SC.den]at*;rw[h1],h2⟩
  ·cases h
def lX:List au->Nat->List au->List au
 |cs,_,[]=>cs
 |cs,o,x::xs=>lX (cs.set o x) (o+1) xs
def R6: ∀ (xs cs:List au) (o:Nat),(lX cs o xs).length=cs.length
 |[],_,_=>rfl
 |x::xs,cs,o=>by rw[lX,R6 xs,adT]
def oL: ∀ (xs cs:List au) (o:Nat),setAt (cs.map ab.f) o (xs.map ab.f)=(lX cs o xs).map ab.f
 |[],_,_=>rfl
 |x::xs,cs,o=>by
  simp[abh,setAt,lX];rw[← oL xs,acJ]
def ID (A:List au): ∀ (xs B:List au) (o:Nat),lX (A++B) (A.length+o) xs=A++lX B o xs
 |[],B,o=>rfl
 |x::xs,B,o=>by
  simp only[lX];rw[List.set_append_right _ _ (by omega),ac1];exact ID A xs (B.set o x) (o+1)
def Df (B:List au): ∀ (xs A:List au) (o:Nat),o+xs.length<=A.length->lX (A++B) o xs=lX A o xs++B
 |[],A,o,_=>rfl
 |x::xs,A,o,h=>by
  simp[acY]at h;simp[lX];rw[ad5 _ _ (by omega),Df B xs _ (o+1) (by rw[adT];omega)]
def uD {α:Type} {z:Nat} {F:α->List au} (hF: ∀ x,(F x).length=z) (x':α): ∀ (l:List α) (i k:Nat) (a:α) (fs:List au),l[i]? =some a->k+fs.length<=z->F x'=lX (F a) k fs->lX (l.flatMap F) (i*z+k) fs=(l.set i x').flatMap F
 |[],i,k,a,fs,h,_,_=>by simp at h
 |x::l,0,k,a,fs,h,hk,e=>by
  have:x=a:=by simpa using h
  subst this;simp[abP,ad1,aeg,afh];rw[Df _ _ _ _ (by rw[hF];exact hk),e]
 |x::l,i+1,k,a,fs,h,hk,e=>by
  simp[abP,List.set_cons_succ];rw[show(i+1)*z+k=(F x).length+(i*z+k)by rw[hF,acK];omega,ID];rw[uD hF x' l i k a fs (by simpa using h) hk e]
def wH {m:List ab}: ∀ (ds l:List ab) (o:Nat),o+ds.length<=l.length->setAt (l++m) o ds=setAt l o ds++m
 |[],_,_,_=>rfl
 |d::ds,l,o,h=>by
  simp[acY]at h;rw[setAt,setAt,ad5 _ _ (by omega),wH ds _ _ (by rw[adT];omega)]
section
variable {P:Program} {ops:Array Oper} {s:St} {d:Option Tmp} {ty:TypeId} {pos:String} {af:Array Edge} {T:Tb} {r:SR} {H:SH}
def vR:SV:= .c (.c .any)
def Fm (T:Tb) (H:SH) (t:Nat) (v:SV) (y:Operand) (u:SV):Option SR:=
  match kI T.sz t with
  |some (_,n)=>match v with
   | .c (.c (.ptr b off))=>match nth H b with
     |some (some (.cells cs))=>match Rd cs with
       |false=>none
       |true=>match u with
        | .c (.c (.bB false _ _ _))=>none
        | .c (.c (.mp _ _))=>none
        | .c (.dr z F V M e l)=>match y with
          | .tmp w=>match abO n 1 with
            |true=>jr cs off (.dr z F V M e l) fun cs'=>jr H b (some (.cells cs')) fun H'=>some ⟨vR,some (w,.v (.c (.c (.f (.row [] l.length))))),some H',.ZO b,True⟩
            |false=>none
          |_=>none
        | .c (.c (.bB true z gs m))=>match y with
          | .tmp w=>match abO n 1 with
            |true=>jr cs off (.c (.bB true z gs m)) fun cs'=>jr H b (some (.cells cs')) fun H'=>some ⟨vR,some (w,.v (.c (.c (.f (.row gs m))))),some H',.ZO b,True⟩
            |false=>none
          |_=>none
        | .c (.cX z F V M e l)=>match y with
          | .tmp w=>match abO n 1 with
            |true=>jr cs off (.cX z F V M e l) fun cs'=>jr H b (some (.cells cs')) fun H'=>some ⟨vR,some (w,.v (.c (.row z F V e l))),some H',.ZO b,True⟩
            |false=>none
          |_=>none
        | .c x=>match abO n 1,Rq x with
          |true,true=>jr cs off x fun cs'=>jr H b (some (.cells cs')) fun H'=>some ⟨vR,none,some H',.st b,True⟩
          |_,_=>none
        | .agg ds=>match CN ds n,vQ ds,afF 1 n with
          |true,true,true=>IF cs off ds fun cs'=>jr H b (some (.cells cs')) fun H'=>some ⟨vR,none,some H',.st b,True⟩
          |_,_,_=>none
        | .dt _=>none
     |_=>none
   | .c (.Bu b z i k)=>match nth H b with
     |some (some (.bF z' F V M e l))=>match abO z z' with
      |true=>match u with
       | .c (.c (.bB false _ _ _))=>none
       | .c (.c (.mp _ _))=>none
       | .c (.dr ..)=>none
       | .c (.c (.bB true _ _ _))=>none
       | .c (.cX ..)=>none
       | .c x=>match abO n 1 with
         |true=>Ti [x] fun fs=>match M (lX (F (l.getD i.toNat e)) k fs)with
          |some x'=>jr H b (some (.bF z' F V M e (l.set i.toNat x'))) fun H'=>some ⟨vR,none,some H',.st b,(0<=i/\i<l.length)/\k<z/\B7 z' F V/\F x'=lX (F (l.getD i.toNat e)) k fs⟩
          |none=>none
         |false=>none
       | .agg ds=>match CN ds n with
         |true=>Ti ds fun fs=>match M (lX (F (l.getD i.toNat e)) k fs)with
          |some x'=>jr H b (some (.bF z' F V M e (l.set i.toNat x'))) fun H'=>some ⟨vR,none,some H',.st b,(0<=i/\i<l.length)/\k+fs.length<=z/\B7 z' F V/\F x'=lX (F (l.getD i.toNat e)) k fs⟩
          |none=>none
         |false=>none
       | .dt _=>none
      |false=>none
     |some (some (.gn z' F V M e l m))=>match abO z z' with
      |true=>match u with
       | .c (.c (.bB false _ _ _))=>none
       | .c (.c (.mp _ _))=>none
       | .c (.dr ..)=>none
       | .c (.c (.bB true _ _ _))=>none
       | .c (.cX ..)=>none
       | .c x=>match abO n 1 with
         |true=>Ti [x] fun fs=>match M (lX (F (l.getD i.toNat e)) k fs)with
          |some x'=>jr H b (some (.gn z' F V M e (l.set i.toNat x') m)) fun H'=>some ⟨vR,none,some H',.st b,(0<=i/\i<l.length)/\k<z/\B7 z' F V/\F x'=lX (F (l.getD i.toNat e)) k fs⟩
          |none=>none
         |false=>none
       | .agg ds=>match CN ds n with
         |true=>Ti ds fun fs=>match M (lX (F (l.getD i.toNat e)) k fs)with
          |some x'=>jr H b (some (.gn z' F V M e (l.set i.toNat x') m)) fun H'=>some ⟨vR,none,some H',.st b,(0<=i/\i<l.length)/\k+fs.length<=z/\B7 z' F V/\F x'=lX (F (l.getD i.toNat e)) k fs⟩
          |none=>none
         |false=>none
       | .dt _=>none
      |false=>none
     |some (some (.rws z' F V M e l h))=>match z with
      |1=>match k with
       |0=>match u with
        | .c (.dr z2 F2 V2 M2 e2 l2)=>match y with
          | .tmp w=>match abO n 1 with
            |true=>match h with
             |none=>jr H b (some (.rws z' F V M e l (some (i,.dr z2 F2 V2 M2 e2 l2)))) fun H'=>some ⟨vR,some (w,.v (.c (.c (.f (.row [] l2.length))))),some H',.ZO b,0<=i/\i<l.length⟩
             |some (j,x)=>match aL x with
              |true=>jr H b (some (.rws z' F V M e l (some (i,.dr z2 F2 V2 M2 e2 l2)))) fun H'=>some ⟨vR,some (w,.v (.c (.c (.f (.row [] l2.length))))),some H',.ZO b,(0<=i/\i<l.length)/\i=j⟩
              |false=>none
            |false=>none
          |_=>none
        |_=>none
       |_=>none
      |_=>none
     |_=>none
   |_=>none
  |none=>none
def zp {ds:List SC} (h:vQ ds=true):(SV.agg ds).den.cells=some (bw ds):=by
 show(if(bw ds).all ab.one then some (bw ds)else none)=_;rw[yX h];rfl
def JJ {x:SC} (h:Rq x=true):(SV.c x).den.cells=some [x.den]:=by
 show(if x.den.one then some [x.den]else none)=_;rw[AB h];rfl
def V3 (fs:List au):(fs.map ab.f).all ab.one=true:=by
 simp[List.all_map,abi];intro x _;rfl
def K2 (O:T.Ok P) (hH:s.H=bh H) {t:Nat} {x y:Operand} {v u:SV} (hx:s.ev x=v.den) (hy:s.ev y=u.den) (h:Fm T H t v y u=some r):p9 P ops ⟨none,.store t x y,ty,pos,af,none⟩ s r:=by
 intro rest R hp hk;unfold Fm at h;split at h
 next q n hsz=>
  have ht:=O.MQ hsz;split at h
  next b off=>
   split at h
   next cs hb=>
    have hb':s.H[b]? =some (some (bw cs)):=by rw[hH];exact eK hb
    split at h
    ·cases h
    rename_i Jd;have Jd:=qX Jd;split at h
    ·cases h
    ·cases h
    next α z F V M e l=>
     split at h
     next w=>
      split at h
      next hn=>
       have hn:=abg hn;subst hn;have⟨h1,h2⟩:=dh h;have⟨h3,h4⟩:=dh h2;cases h4;refine kO ht hx hb' hy (by rw[gC];simpa using h1) Jd ?_ hk;rw[jy,hH];simp[SB.den,bw,acJ,SC.den]
      ·cases h
     ·cases h
    next z gs m=>
     split at h
     next w=>
      split at h
      next hn=>
       have hn:=abg hn;subst hn;have⟨h1,h2⟩:=dh h;have⟨h3,h4⟩:=dh h2;cases h4;refine kO ht hx hb' hy (by rw[gC];simpa using h1) Jd ?_ hk;rw[jy,hH];simp[SB.den,bw,acJ,SC.den]
      ·cases h
     ·cases h
    next α z F V M e l=>
     split at h
     next w=>
      split at h
      next hn=>
       have hn:=abg hn;subst hn;have⟨h1,h2⟩:=dh h;have⟨h3,h4⟩:=dh h2;cases h4;refine kO ht hx hb' hy (by rw[gC];simpa using h1) Jd ?_ hk;rw[jy,hH];simp[SB.den,bw,acJ,SC.den]
      ·cases h
     ·cases h
    next x' hn0 L7 sq hne wc=>
     split at h
     next hn ho=>
      have hn:=abg hn;subst hn;have⟨h1,h2⟩:=dh h;have⟨h3,h4⟩:=dh h2;cases h4;refine rC ht hx hb' hy (v9 (oC (fun z gs m e=>hn0 z gs m (by rw[e])) (fun q es e=>L7 q es (by rw[e])) (fun α z F V M d l e=>sq α z F V M d l (by rw[e])) (fun z gs m e=>hne z gs m (by rw[e])) (fun α z F V M d l e=>wc α z F V M d l (by rw[e])))) (JJ ho) ⟨rfl,by rw[gC];exact h1,Jd⟩ ?_ hk;rw[jy,hH];simp[SB.den,bw,acJ,setAt]
     ·cases h
    next ds=>
     split at h
     next hn ho Jc=>
      have Jc:=ad2 Jc;have hn:=qQ hn;have hl:=wI h;have⟨cs',h1,h2⟩:=A6 h (by rcases hl with h|h;exact .inr h;exact .inl h);have⟨h3,h4⟩:=dh h2;cases h4;by_cases hz:off+n<=cs.length
      ·refine rC ht hx hb' hy rfl (zp ho) ⟨by rw[gC];exact hn,by rw[gC];exact hz,Jd⟩ ?_ hk
       rw[jy,hH];simp[SB.den,h1]
      ·exfalso
       rcases hl with rfl|hl
       ·simp at hn
        omega
       ·omega
     ·cases h
    ·cases h
   ·cases h
  next b z i k=>
   split at h
   next α z' F V M e l hb=>
    have hb':s.H[b]? =some (some ((l.flatMap F).map ab.f)):=by rw[hH];exact eK hb
    split at h
    next hz=>
     have hz:=abg hz;subst hz;split at h
     ·cases h
     ·cases h
     ·cases h
     ·cases h
     ·cases h
     next x' hn0 L7 sq hne wc=>
      split at h
      next hn=>
       have hn:=abg hn;subst hn;have⟨fs,h1,h2⟩:=qF h;split at h2
       next a ha=>
        have⟨h3,h4⟩:=dh h2;cases h4;have⟨h0,hkz,hV,hF⟩:=hp;have Bp:fs.length=1:=by have:=congrArg ac0 h1;simpa[bw]using this.symm
        have hlen:=iF F z (fun x=>(hV x).1) l i.toNat _ (iw (d:=e) h0.1 h0.2);have e1:[x'.den]=fs.map ab.f:=h1;have ho:x'.den.one=true:=by
         cases fs with
         |nil=>simp at Bp
         |cons f fs=>simp[abh,List.cons.injEq]at e1;rw[e1.1];rfl
        refine rC ht hx hb' hy (v9 (oC (fun z gs m e=>hn0 z gs m (by rw[e])) (fun q es e=>L7 q es (by rw[e])) (fun α z F V M d l e=>sq α z F V M d l (by rw[e])) (fun z gs m e=>hne z gs m (by rw[e])) (fun α z F V M d l e=>wc α z F V M d l (by rw[e])))) (ds:=fs.map ab.f) ?_ ⟨by simpa using Bp,by rw[abk];omega,Az _⟩ ?_ hk
        ·show(if x'.den.one then some [x'.den]else none)=_
         rw[ho,e1];rfl
        ·rw[jy,hH,oL,uD (fun x=>(hV x).1) a l i.toNat k _ fs (iw h0.1 h0.2) (by omega) hF]
         rfl
       ·cases h2
      ·cases h
     next ds=>
      split at h
      next hn=>
       have hn:=qQ hn;have⟨fs,h1,h2⟩:=qF h;split at h2
       next a ha=>
        have⟨h3,h4⟩:=dh h2;cases h4;have⟨h0,hkz,hV,hF⟩:=hp;have Bp:fs.length=n:=by have:=congrArg ac0 h1;rw[gC,abk]at this;omega
        have hlen:=iF F z (fun x=>(hV x).1) l i.toNat _ (iw (d:=e) h0.1 h0.2);refine rC ht hx hb' hy rfl (ds:=fs.map ab.f) ?_ ⟨by simpa using Bp,by rw[abk];omega,Az _⟩ ?_ hk
        ·show(if(bw ds).all ab.one then some (bw ds)else none)=_
         rw[h1,V3];rfl
        ·rw[jy,hH,oL,uD (fun x=>(hV x).1) a l i.toNat k _ fs (iw h0.1 h0.2) (by omega) hF]
         rfl
       ·cases h2
      ·cases h
     ·cases h
    ·cases h
   next α z' F V M e l m hb=>
    have hb':s.H[b]? =some (some ((l.flatMap F).map ab.f++abV m .any)):=by rw[hH];exact eK hb
    split at h
    next hz=>
     have hz:=abg hz;subst hz;split at h
     ·cases h
     ·cases h
     ·cases h
     ·cases h
     ·cases h
     next x' hn0 L7 sq hne wc=>
      split at h
      next hn=>
       have hn:=abg hn;subst hn;have⟨fs,h1,h2⟩:=qF h;split at h2
       next a ha=>
        have⟨h3,h4⟩:=dh h2;cases h4;have⟨h0,hkz,hV,hF⟩:=hp;have Bp:fs.length=1:=by have:=congrArg ac0 h1;simpa[bw]using this.symm
        have hlen:=iF F z (fun x=>(hV x).1) l i.toNat _ (iw (d:=e) h0.1 h0.2);have e1:[x'.den]=fs.map ab.f:=h1;have ho:x'.den.one=true:=by
         cases fs with
         |nil=>simp at Bp
         |cons f fs=>simp[abh,List.cons.injEq]at e1;rw[e1.1];rfl
        refine rC ht hx hb' hy (v9 (oC (fun z gs m e=>hn0 z gs m (by rw[e])) (fun q es e=>L7 q es (by rw[e])) (fun α z F V M d l e=>sq α z F V M d l (by rw[e])) (fun z gs m e=>hne z gs m (by rw[e])) (fun α z F V M d l e=>wc α z F V M d l (by rw[e])))) (ds:=fs.map ab.f) ?_ ⟨by simpa using Bp,by rw[acP,abk];omega,lR _ _⟩ ?_ hk
        ·show(if x'.den.one then some [x'.den]else none)=_
         rw[ho,e1];rfl
        ·rw[jy,hH,wH _ _ _ (by rw[abk,abk];omega),oL,uD (fun x=>(hV x).1) a l i.toNat k _ fs (iw h0.1 h0.2) (by omega) hF]
         rfl
       ·cases h2
      ·cases h
     next ds=>
      split at h
      next hn=>
       have hn:=qQ hn;have⟨fs,h1,h2⟩:=qF h;split at h2
       next a ha=>
        have⟨h3,h4⟩:=dh h2;cases h4;have⟨h0,hkz,hV,hF⟩:=hp;have Bp:fs.length=n:=by have:=congrArg ac0 h1;rw[gC,abk]at this;omega
        have hlen:=iF F z (fun x=>(hV x).1) l i.toNat _ (iw (d:=e) h0.1 h0.2);refine rC ht hx hb' hy rfl (ds:=fs.map ab.f) ?_ ⟨by simpa using Bp,by rw[acP,abk];omega,lR _ _⟩ ?_ hk
        ·show(if(bw ds).all ab.one then some (bw ds)else none)=_
         rw[h1,V3];rfl
        ·rw[jy,hH,wH _ _ _ (by rw[abk,abk];omega),oL,uD (fun x=>(hV x).1) a l i.toNat k _ fs (iw h0.1 h0.2) (by omega) hF]
         rfl
       ·cases h2
      ·cases h
     ·cases h
    ·cases h
   next α z' F V M e l h' hb=>
    have hb':s.H[b]? =some (some (iW z' F l h')):=by rw[hH];exact eK hb
    split at h
    ·split at h
     ·split at h
      ·split at h
       ·split at h
        next hn=>
         have hn:=abg hn;subst hn;have e1:i.toNat*1+0=i.toNat:=by omega
         split at h
         ·have⟨h3,h4⟩:=dh h
          cases h4;refine kO ht hx hb' hy (by rw[Ix,e1];simp[afL];omega) (wG fun _ _ e=>by cases e) ?_ hk;rw[jy,hH,e1];rfl
         ·split at h
          next Jd=>
           have⟨h3,h4⟩:=dh h;cases h4;obtain⟨h0,rfl⟩:=hp;refine kO ht hx hb' hy (by rw[Ix,e1];simp[afL];omega) (wG fun _ _ e=>by cases e;exact Jd) ?_ hk;rw[jy,hH,e1];congr 1;exact Da (x:= .dr _ _ _ _ _ _)
          ·cases h
        ·cases h
       ·cases h
      ·cases h
     ·cases h
    ·cases h
   ·cases h
  ·cases h
 ·cases h
end
section
variable {P:Program} {ops:Array Oper} {s:St} {d:Option Tmp} {ty:TypeId} {pos:String} {af:Array Edge} {T:Tb} {r:SR} {H:SH}
def Y4 (T:Tb) (H:SH) (t:Nat) (v i:SV):Option SR:=
 match kI T.es t with
 |some z=>match i with
  | .c (.c (.f (.v (.int k n))))=>match v with
   | .c (.row z' F V e l)=>match abO z z' with
    |true=>some ⟨.c (.Cq z' F V e l n 0),none,none,.q0,0<=n/\n<l.length⟩
    |false=>none
   | .c (.cX z' F V M e l)=>match abO z z' with
    |true=>some ⟨.c (.Cq z' F V e l n 0),none,none,.q0,0<=n/\n<l.length⟩
    |false=>none
   | .c (.c (.f (.row cs len)))=>some ⟨.c (.c (.ip cs (n.toNat*z))),none,none,.q0,0<=n/\n<len⟩
   | .c (.c (.bB true z' cs len))=>some ⟨.c (.c (.ip cs (n.toNat*z))),none,none,.q0,0<=n/\n<len⟩
   | .c (.c (.arr b off len cap))=>match nth H b with
    |some (some (.bF z' F V M e l))=>match abO z z',abO off 0 with
     |true,true=>some ⟨.c (.Bu b z' n 0),none,none,.q0,0<=n/\n<len⟩
     |_,_=>none
    |some (some (.gn z' F V M e l m))=>match abO z z',abO off 0 with
     |true,true=>some ⟨.c (.Bu b z' n 0),none,none,.q0,0<=n/\n<len⟩
     |_,_=>none
    |some (some (.rws _ _ _ _ _ _ _))=>match abO z 1,abO off 0 with
     |true,true=>some ⟨.c (.Bu b 1 n 0),none,none,.q0,0<=n/\n<len⟩
     |_,_=>none
    |_=>some ⟨.c (.c (.ptr b (off+n.toNat*z))),none,none,.q0,0<=n/\n<len⟩
   |_=>none
  |_=>none
 |none=>none
def VA (O:T.Ok P) {t:Nat} {x i:Operand} {v u:SV} (hx:s.ev x=v.den) (hi:s.ev i=u.den) (h:Y4 T H t v u=some r):p9 P ops ⟨d,.indexAddr t x i,ty,pos,af,none⟩ s r:=by
 intro rest R hp hk;unfold Y4 at h;split at h
 next z hz=>
  have hz:=O.sO hz;split at h
  next k n=>
   split at h
   ·split at h
    next hb=>
     have hb:=abg hb;subst hb;cases h;exact ud hz hx rfl hi hp.1 hp.2 rfl hk
    ·cases h
   ·split at h
    next hb=>
     have hb:=abg hb;subst hb;cases h;exact ud hz hx rfl hi hp.1 hp.2 rfl hk
    ·cases h
   ·cases h
    exact ud hz hx rfl hi hp.1 hp.2 rfl hk
   ·cases h
    exact ud hz hx rfl hi hp.1 hp.2 rfl hk
   ·split at h
    ·split at h
     next hb hb2=>
      have hb:=abg hb;have hb2:=abg hb2;subst hb;subst hb2;cases h;exact uc hz hx hi hp.1 hp.2 (by omega) hk
     ·cases h
    ·split at h
     next hb hb2=>
      have hb:=abg hb;have hb2:=abg hb2;subst hb;subst hb2;cases h;exact uc hz hx hi hp.1 hp.2 (by omega) hk
     ·cases h
    ·split at h
     next hb hb2=>
      have hb:=abg hb;have hb2:=abg hb2;subst hb;subst hb2;cases h;exact uc hz hx hi hp.1 hp.2 (by omega) hk
     ·cases h
    ·cases h
     exact uc hz hx hi hp.1 hp.2 rfl hk
   ·cases h
  ·cases h
 ·cases h
def Fj (T:Tb) (t f:Nat) (v:SV):Option SR:=
 match kI T.fa t with
 |some l=>match sy l f with
  |some (off,q)=>match v with
   | .agg cs=>match q with
    |some (false,_)=>match nth cs off with
     |some y=>some ⟨.c y,none,none,.q0,True⟩
     |none=>none
    |some (true,n)=>JN cs off n fun ds=>some ⟨.agg ds,none,none,.q0,True⟩
    |none=>none
   |_=>none
  |none=>none
 |none=>none
def KU (O:T.Ok P) {t f:Nat} {x:Operand} {v:SV} (hx:s.ev x=v.den) (h:Fj T t f v=some r):p9 P ops ⟨d,.field t x f,ty,pos,af,none⟩ s r:=by
 intro rest R hp hk;unfold Fj at h;split at h
 next l hl=>
  split at h
  next off q hq=>
   rw[jN]at hq
   have hf:=O.aaI hl hq;split at h
   next cs=>
    split at h
    ·split at h
     next y hy=>
      cases h;refine Lc hf hx (r:= .c y.den) ?_ hk;unfold wR;simp[jO hy]
     ·cases h
    ·have⟨h1,h2⟩:=rK h
     cases h2;refine Lc hf hx (r:= .agg _) ?_ hk;unfold wR;simp only;rw[aaR (by rw[gC];exact h1),yh]
    ·cases h
   ·cases h
  ·cases h
 ·cases h
def Si (i:Nat) (v:SV):Option SR:=
 match v with
 | .dt ts=>match nth ts i with
  |some (.c x)=>some ⟨.c x,none,none,.q0,True⟩
  |some (.agg l)=>some ⟨.agg l,none,none,.q0,True⟩
  |none=>none
 |_=>none
def Sj {x:Operand} {i:Nat} {v:SV} (hx:s.ev x=v.den) (h:Si i v=some r):p9 P ops ⟨d,.extract x i,ty,pos,af,none⟩ s r:=by
 intro rest R hp hk;unfold Si at h;split at h
 next ts=>
  split at h
  next y hy=>
   rw[jP]at hy
   cases h;exact B3 (y:= .c y.den) hx (by rw[abj,hy];rfl) hk
  next y hy=>
   rw[jP]at hy
   cases h;exact B3 (y:= .agg (bw y)) hx (by rw[abj,hy];rfl) hk
  ·cases h
 ·cases h
def eqK:IntKind->IntKind->Bool
 | .i8,.i8=>true
 | .i16,.i16=>true
 | .i32,.i32=>true
 | .i64,.i64=>true
 | .u8,.u8=>true
 | .u16,.u16=>true
 | .u32,.u32=>true
 | .u64,.u64=>true
 |_,_=>false
def JV: ∀ {k j:IntKind},eqK k j=true->k=j:=by
 intro k j h;cases k<;>cases j<;>first|rfl|cases h
def G8:IntKind->Bool
 | .i64=>true
 |_=>false
def uQ: ∀ {k:IntKind},G8 k=true->k= .i64:=by
 intro k h;cases k<;>first|rfl|cases h
def ML (op:BinOp) (k:IntKind) (a b:Int):Option SR:=
 match op with
 | .eql=>some ⟨bV (decide (a=b)),none,none,.q0,True⟩
 | .neq=>some ⟨bV (!decide (a=b)),none,none,.q0,True⟩
 | .lss=>some ⟨bV (decide (a<b)),none,none,.q0,True⟩
 | .leq=>some ⟨bV (decide (a<=b)),none,none,.q0,True⟩
 | .gtr=>some ⟨bV (decide (b<a)),none,none,.q0,True⟩
 | .geq=>some ⟨bV (decide (b<=a)),none,none,.q0,True⟩
 | .add=>match G8 k with
  |true=>some ⟨iV .i64 (a+b),none,none,.q0,-9223372036854775808<=a+b/\a+b<=9223372036854775807⟩
  |false=>some ⟨iV k (k.wrap (a+b)),none,none,.q0,True⟩
 | .sub=>match G8 k with
  |true=>some ⟨iV .i64 (a-b),none,none,.q0,-9223372036854775808<=a-b/\a-b<=9223372036854775807⟩
  |false=>some ⟨iV k (k.wrap (a-b)),none,none,.q0,True⟩
 | .mul=>match G8 k with
  |true=>some ⟨iV .i64 (a*b),none,none,.q0,-9223372036854775808<=a*b/\a*b<=9223372036854775807⟩
  |false=>some ⟨iV k (k.wrap (a*b)),none,none,.q0,True⟩
 | .quo=>match G8 k with
  |true=>some ⟨iV .i64 (a / b),none,none,.q0,0<=a/\0<b/\a<=9223372036854775807⟩
  |false=>some ⟨iV k (k.wrap (a.tdiv b)),none,none,.q0,b≠0⟩
 | .rem=>match G8 k with
  |true=>some ⟨iV .i64 (a%b),none,none,.q0,0<=a/\0<b⟩
  |false=>some ⟨iV k (a.tmod b),none,none,.q0,b≠0⟩
 | .and=>some ⟨iV k (k.wrap ((acA k.bits a&&& acA k.bits b).toNat)),none,none,.q0,True⟩
 | .or=>some ⟨iV k (k.wrap ((acA k.bits a|||acA k.bits b).toNat)),none,none,.q0,True⟩
 | .xor=>some ⟨iV k (k.wrap ((acA k.bits a^^^acA k.bits b).toNat)),none,none,.q0,True⟩
 |_=>none
def IH {op:BinOp} {t u:TypeId} {x y:Operand} {k:IntKind} {a b:Int} (hx:s.ev x= .c (.f (.v (.int k a)))) (hy:s.ev y= .c (.f (.v (.int k b)))) (h:ML op k a b=some r):p9 P ops ⟨d,.binOp op t x y u,ty,pos,af,none⟩ s r:=by
 intro rest R hp hk;unfold ML at h;split at h
 iterate 6
  ·cases h
   exact kf hx hy rfl hk
 iterate 3
  ·split at h
   next hi=>
    have hi:=uQ hi;subst hi;cases h
    first|exact ZV hx hy hp.1 hp.2 hk|exact Z4 hx hy hp.1 hp.2 hk|exact ZZ hx hy hp.1 hp.2 hk
   ·cases h
    exact kf hx hy rfl hk
 ·split at h
  next hi=>
   have hi:=uQ hi;subst hi;cases h;exact Z0 hx hy hp.1 hp.2.1 hp.2.2 hk
  ·cases h
   exact kf hx hy (by simp only[G2];rw[aaQ hp]) hk
 ·split at h
  next hi=>
   have hi:=uQ hi;subst hi;cases h;exact Z1 hx hy hp.1 hp.2 hk
  ·cases h
   exact kf hx hy (by simp only[G2];rw[aaQ hp]) hk
 iterate 3
  ·cases h
   exact W5 hx hy rfl hk
 ·cases h
def WM (op:BinOp) (a b:ByteArray):Option SR:=
 match op with
 | .add=>some ⟨sV (a++b),none,none,.q0,a.size+b.size<=9223372036854775807⟩
 | .eql=>some ⟨bV (a.toList==b.toList),none,none,.q0,True⟩
 | .neq=>some ⟨bV (!(a.toList==b.toList)),none,none,.q0,True⟩
 | .lss=>some ⟨bV (afI a.toList b.toList),none,none,.q0,True⟩
 |_=>none
def FF:List EK->List SC->List SC->Option Bool
 |[],[],[]=>some true
 | .i::ks,.c (.f (.v (.int .i64 a)))::vs,.c (.f (.v (.int .i64 b)))::us=>match FF ks vs us with
  |some r=>some (decide (a=b)&&r)
  |none=>none
 | .s::ks,.c (.f (.v (.string a)))::vs,.c (.f (.v (.string b)))::us=>match FF ks vs us with
  |some r=>some ((a.toList==b.toList)&&r)
  |none=>none
 | .b::ks,.c (.f (.v (.bool a)))::vs,.c (.f (.v (.bool b)))::us=>match FF ks vs us with
  |some r=>some ((a==b)&&r)
  |none=>none
 |_,_,_=>none
def XB: ∀ {ks:List EK} {vs us:List SC} {r:Bool},FF ks vs us=some r-> ∃ v u,vy (bw vs)=some v/\vy (bw us)=some u/\gE ks v u=some r:=by
 intro ks vs us
 fun_induction FF ks vs us with
 |case1=>
  intro r h;exact⟨[],[],rfl,rfl,h⟩
 |case2 ks a vs b us r hr ih=>
  intro r' h;cases h;have⟨v,u,h1,h2,h3⟩:=ih hr;refine⟨.int .i64 a::v,.int .i64 b::u,?_,?_,by simp[gE,h3]⟩
  ·simp[bw,abh,vy,SC.den,ab.jl,au.jl]at*;rw[h1]
  ·simp[bw,abh,vy,SC.den,ab.jl,au.jl]at*;rw[h2]
 |case3=>intro r h;cases h
 |case4 ks a vs b us r hr ih=>
  intro r' h;cases h;have⟨v,u,h1,h2,h3⟩:=ih hr;refine⟨.string a::v,.string b::u,?_,?_,by simp[gE,h3]⟩
  ·simp[bw,abh,vy,SC.den,ab.jl,au.jl]at*;rw[h1]
  ·simp[bw,abh,vy,SC.den,ab.jl,au.jl]at*;rw[h2]
 |case5=>intro r h;cases h
 |case6 ks a vs b us r hr ih=>
  intro r' h;cases h;have⟨v,u,h1,h2,h3⟩:=ih hr;refine⟨.bool a::v,.bool b::u,?_,?_,by simp[gE,h3]⟩
  ·simp[bw,abh,vy,SC.den,ab.jl,au.jl]at*;rw[h1]
  ·simp[bw,abh,vy,SC.den,ab.jl,au.jl]at*;rw[h2]
 |case7=>intro r h;cases h
 |case8=>intro r h;cases h
def Sd (T:Tb) (op:BinOp) (t:Nat) (v u:SV):Option SR:=
 match v with
 | .c (.c (.f (.v (.int k a))))=>match u with
  | .c (.c (.f (.v (.int j b))))=>match op with
   | .shl=>some ⟨iV k (k.wrap (a*2^(min b.toNat k.bits))),none,none,.q0,0<=b⟩
   | .shr=>some ⟨iV k (a.fdiv (2^(min b.toNat k.bits))),none,none,.q0,0<=b⟩
   | .quo=>match T.qt with
    |true=>match eqK k j with
     |true=>some ⟨iV k (k.wrap (a.tdiv b)),none,none,.q0,b≠0⟩
     |false=>none
    |false=>match eqK k j with
     |true=>ML .quo k a b
     |false=>none
   |op=>match eqK k j with
    |true=>ML op k a b
    |false=>none
  |_=>none
 | .c (.c (.f (.v (.string a))))=>match u with
  | .c (.c (.f (.v (.string b))))=>WM op a b
  |_=>none
 | .agg vs=>match u with
  | .agg us=>match kI T.eq t with
   |some ks=>match FF ks vs us with
    |some r=>match op with
     | .eql=>some ⟨bV r,none,none,.q0,True⟩
     | .neq=>some ⟨bV (!r),none,none,.q0,True⟩
     |_=>none
    |none=>none
   |none=>none
  |_=>none
 |_=>none
def Se (O:T.Ok P) {op:BinOp} {t w:TypeId} {x y:Operand} {v u:SV} (hx:s.ev x=v.den) (hy:s.ev y=u.den) (h:Sd T op t v u=some r):p9 P ops ⟨d,.binOp op t x y w,ty,pos,af,none⟩ s r:=by
 intro rest R hp hk;unfold Sd at h;split at h
 ·split at h
  ·split at h
   ·cases h
    exact Z2 hx hy hp hk
   ·cases h
    exact Z3 hx hy hp hk
   ·split at h
    ·split at h
     next hj=>
      have hj:=JV hj;subst hj;cases h;exact kf hx hy (by simp only[G2];rw[aaQ hp]) hk
     ·cases h
    ·split at h
     next hj=>
      have hj:=JV hj;subst hj;exact IH hx hy h rest R hp hk
     ·cases h
   ·split at h
    next hj=>
     have hj:=JV hj;subst hj;exact IH hx hy h rest R hp hk
    ·cases h
  ·cases h
 ·split at h
  ·unfold WM at h
   split at h
   ·cases h
    exact W8 hx hy hp hk
   iterate 3
    ·cases h
     exact Pk hx hy rfl hk
   ·cases h
  ·cases h
 ·split at h
  ·split at h
   next ks hks=>
    split at h
    next rr hr=>
     have⟨vv,uu,h1,h2,h3⟩:=XB hr;have⟨g1,g2⟩:=O.aaF hks;split at h
     ·cases h
      exact VX hx hy h1 h2 g1 (fun w=>(g2 _ _ _ h3 w).1) hk
     ·cases h
      exact VX hx hy h1 h2 g1 (fun w=>(g2 _ _ _ h3 w).2) hk
     ·cases h
    ·cases h
   ·cases h
  ·cases h
 ·cases h
def Y5 (op:UnOp) (v:SV):Option SR:=
 match v with
 | .c (.c (.f (.v (.int k a))))=>match op with
  | .neg=>match G8 k with
   |true=>some ⟨iV .i64 (-a),none,none,.q0,-9223372036854775808<= -a/\ -a<=9223372036854775807⟩
   |false=>some ⟨iV k (k.wrap (0-a)),none,none,.q0,True⟩
  |_=>none
 | .c (.c (.f (.v (.bool b))))=>match op with
  | .not=>some ⟨bV (!b),none,none,.q0,True⟩
  |_=>none
 |_=>none
def VB {op:UnOp} {t:TypeId} {x:Operand} {v:SV} (hx:s.ev x=v.den) (h:Y5 op v=some r):p9 P ops ⟨d,.unOp op t x,ty,pos,af,none⟩ s r:=by
 intro rest R hp hk;unfold Y5 at h;split at h
 ·split at h
  ·split at h
   next hi=>
    have hi:=uQ hi;subst hi;cases h;refine W9 hx (v:= .int .i64 (-_)) ?_ hk;simp only[iun];rw[Int.zero_sub,wrap64 hp.1 hp.2]
   ·cases h
    exact W9 hx rfl hk
  ·cases h
 ·split at h
  ·cases h
   exact W9 hx rfl hk
  ·cases h
 ·cases h
def Fk (T:Tb) (t:Nat) (v i:SV):Option SR:=
 match v with
 | .c (.c (.f (.v (.string b))))=>match i with
  | .c (.c (.f (.v (.int k n))))=>match BO T.st t with
   |true=>some ⟨iV .u8 (b.data.getD n.toNat 0).toNat,none,none,.q0,0<=n/\n<b.size⟩
   |false=>none
  |_=>none
 |_=>none
def KV (O:T.Ok P) {t:Nat} {x i:Operand} {v u:SV} (hx:s.ev x=v.den) (hi:s.ev i=u.den) (h:Fk T t v u=some r):p9 P ops ⟨d,.index t x i,ty,pos,af,none⟩ s r:=by
 intro rest R hp hk;unfold Fk at h;split at h
 ·split at h
  ·split at h
   next ht=>
    cases h;exact DC (O.SD ht) hx hi hp.1 hp.2 hk
   ·cases h
  ·cases h
 ·cases h
def Sm (T:Tb) (t:Nat) (v:SV):Option SR:=
 match v with
 | .c (.c (.f (.v (.string b))))=>match BO T.st t with
  |true=>some ⟨iV .i64 b.size,none,none,.q0,True⟩
  |false=>none
 | .c (.row z F V e l)=>match kI T.es t with
  |some _=>some ⟨iV .i64 l.length,none,none,.q0,True⟩
  |none=>none
 | .c (.cX z F V M e l)=>match kI T.es t with
  |some _=>some ⟨iV .i64 l.length,none,none,.q0,True⟩
  |none=>none
 | .c (.c (.f (.row cs n)))=>match kI T.es t with
  |some _=>some ⟨iV .i64 n,none,none,.q0,True⟩
  |none=>none
 | .c (.c (.bB true z cs n))=>match kI T.es t with
  |some _=>some ⟨iV .i64 n,none,none,.q0,True⟩
  |none=>none
 | .c (.dr z F V M e l)=>match kI T.es t with
  |some _=>some ⟨iV .i64 l.length,none,none,.q0,True⟩
  |none=>none
 | .c (.c (.arr b off n cap))=>match kI T.es t with
  |some _=>some ⟨iV .i64 n,none,none,.q0,True⟩
  |none=>none
 | .c (.c (.f .aD))=>match kI T.sl t with
  |some _=>some ⟨iV .i64 0,none,none,.q0,True⟩
  |none=>none
 |_=>none
def Sn (O:T.Ok P) {t:Nat} {x:Operand} {v:SV} (hx:s.ev x=v.den) (h:Sm T t v=some r):p9 P ops ⟨d,.call { callee:= .builtin .len,args:= #[x],argTypes:= #[t] },ty,pos,af,none⟩ s r:=by
 intro rest R hp hk;unfold Sm at h;split at h
 ·split at h
  next ht=>
   cases h;exact M7 (O.SD ht) hx hk
  ·cases h
 iterate 5
  ·split at h
   next hz=>
    cases h;exact M6 (O.sO hz) hx rfl hk
   ·cases h
 ·split at h
  next hz=>
   cases h;exact M4 (O.sO hz) hx hk
  ·cases h
 ·split at h
  next hz=>
   cases h;exact M5 (O.ab3 hz) hx hk
  ·cases h
 ·cases h
def ON (mx:Bool) (v u:SV):Option SR:=
 match v with
 | .c (.c (.f (.v (.int k a))))=>match u with
  | .c (.c (.f (.v (.int j b))))=>match mx with
   |true=>some ⟨iV k (max a b),none,none,.q0,True⟩
   |false=>some ⟨iV k (min a b),none,none,.q0,True⟩
  |_=>none
 |_=>none
def So {t1 t2:TypeId} {x y:Operand} {v u:SV} (hx:s.ev x=v.den) (hy:s.ev y=u.den) (h:ON true v u=some r):p9 P ops ⟨d,.call { callee:= .builtin .max,args:= #[x,y],argTypes:= #[t1,t2] },ty,pos,af,none⟩ s r:=by
 intro rest R hp hk;unfold ON at h;split at h
 ·split at h
  ·cases h
   exact ZX hx hy hk
  ·cases h
 ·cases h
def Sp {t1 t2:TypeId} {x y:Operand} {v u:SV} (hx:s.ev x=v.den) (hy:s.ev y=u.den) (h:ON false v u=some r):p9 P ops ⟨d,.call { callee:= .builtin .min,args:= #[x,y],argTypes:= #[t1,t2] },ty,pos,af,none⟩ s r:=by
 intro rest R hp hk;unfold ON at h;split at h
 ·split at h
  ·cases h
   exact ZY hx hy hk
  ·cases h
 ·cases h
def W2 (m:Int):Prop:=0<=m/\m<256
def zh:List au->(List UInt8->Prop->Option SR)->Option SR
 |[],k=>k [] True
 | .v (.int .u8 m)::r,k=>zh r fun l p=>k (UInt8.ofNat m.toNat::l) (W2 m/\p)
 |_,_=>none
def No: ∀ {cs:List au} {k:List UInt8->Prop->Option SR},zh cs k=some r-> ∃ l p,k l p=some r/\l.length=cs.length/\(p->bytesOf cs=some l):=by
 intro cs
 induction cs with
 |nil=>intro k h;exact⟨[],True,h,rfl,fun _=>rfl⟩
 |cons c cs ih=>
  intro k h;unfold zh at h;split at h
  ·rename_i h0;cases h0
  next m r' h0=>
   injection h0 with e1 e2;subst e1;subst e2;have⟨l,p,h1,h2,h3⟩:=ih h;refine⟨_,_,h1,by simp[h2],fun⟨hm,hp⟩=> ?_⟩;unfold bytesOf;have e:((UInt8.ofNat m.toNat).toNat:Int)=m:=by
    have⟨a,b⟩:=hm;rw[UInt8.toNat_ofNat'];omega
   rw[aaR e,h3 hp]
  ·cases h
def KS (T:Tb) (t u:Nat) (v:SV):Option SR:=
 match v with
 | .c (.c (.f (.v (.int k n))))=>match kI T.it t with
  |some _=>match kI T.it u with
   |some j=>match G8 j with
    |true=>some ⟨iV .i64 n,none,none,.q0,-9223372036854775808<=n/\n<=9223372036854775807⟩
    |false=>some ⟨iV j (j.wrap n),none,none,.q0,True⟩
   |none=>none
  |none=>none
 | .c (.c (.bB true _ cs n))=>match kI T.cb t with
  |some u'=>match abO u u' with
   |true=>zh cs fun l p=>some ⟨sV ⟨l.toArray⟩,none,none,.q0,p/\cs.length=n⟩
   |false=>none
  |none=>none
 | .c (.c (.f (.row cs n)))=>match kI T.cb t with
  |some u'=>match abO u u' with
   |true=>zh cs fun l p=>some ⟨sV ⟨l.toArray⟩,none,none,.q0,p/\cs.length=n⟩
   |false=>none
  |none=>none
 |_=>none
def OJ (O:T.Ok P) {t u:Nat} {x:Operand} {v:SV} (hx:s.ev x=v.den) (h:KS T t u v=some r):p9 P ops ⟨d,.convert t u x,ty,pos,af,none⟩ s r:=by
 intro rest R hp hk;unfold KS at h;split at h
 ·split at h
  next ht=>
   split at h
   next j hu=>
    split at h
    next hj=>
     have hj:=uQ hj;subst hj;cases h;exact Pf (O.Md ht) (O.Md hu) hx hp.1 hp.2 hk
    ·cases h
     exact yM (O.Md ht) (O.Md hu) hx hk
   ·cases h
  ·cases h
 iterate 2
  ·split at h
   next u' hu=>
    split at h
    next hb=>
     have hb:=abg hb;subst hb;have⟨l,p,h1,h2,h3⟩:=No h;cases h1;exact Jj (O.aam hu) hx rfl hp.2 (h3 hp.1) hk
    ·cases h
   ·cases h
 ·cases h
end
def Ly {β:Type 1} (v:SV) (k:List SC->Option β):Option β:=
 match v with
 | .c x=>match Rq x with
  |true=>zw [x] k
  |false=>none
 | .agg ds=>match vQ ds with
  |true=>k ds
  |false=>none
 | .dt _=>none
def T7 (x:ab) (h:x.one=true):x.aZ.one=true:=by
 cases x with
 |bB q=>cases q<;>rfl
 |_=>first|exact h|rfl|cases h
def Gu {β:Type 1} {v:SV} {k:List SC->Option β} {r:β} (h:Ly v k=some r): ∃ ds,v.den.aZ.cells=some (bw ds)/\k ds=some r:=by
 unfold Ly at h;split at h
 next x=>
  split at h
  next h1=>
   have⟨ds,h2,h3⟩:=lI h;refine⟨ds,?_,h3⟩;have h4:=T7 _ (AB h1);show(if x.den.aZ.one then some [x.den.aZ]else none)=_;rw[h4,h2];rfl
  ·cases h
 next ds=>
  split at h
  next h1=>
   exact⟨ds,zp h1,h⟩
  ·cases h
 ·cases h
def abS (p:Pl) (i:Nat):Option (Nat×Nat):=
 match p with
 | .fields l=>sy l i
 | .elems z=>some (i*z,z)
def Ve (p:Pl) (i:Nat):abS p i=p.at i:=by
 cases p with
 |fields l=>exact jN l i
 |elems z=>rfl
def GO {β:Type 1} (ev:Operand->Option SV) (p:Pl):List SC->List (Nat×Operand)->(List SC->Option β)->Option β
 |cells,[],k=>k cells
 |cells,(i,x)::rest,k=>match abS p i with
  |some (off,size)=>match ev x with
   |some v=>Ly v fun ds=>match CN ds size with
    |true=>match afF 1 size with
     |true=>IF cells off ds fun cs=>GO ev p cs rest k
     |false=>none
    |false=>none
   |none=>none
  |none=>none
def zG {β:Type 1} {ev:Operand->Option SV} {p:Pl} {s:St} {r:β}: ∀ {parts:List (Nat×Operand)} {cells:List SC} {k:List SC->Option β},(∀ q∈parts,∀ v,ev q.2=some v->s.ev q.2=v.den)->GO ev p cells parts k=some r->
  ∃ ps cs,gV s parts=some ps/\lD p (bw cells) ps=some (bw cs)/\k cs=some r
 |[],cells,k,_,h=>⟨[],cells,rfl,rfl,h⟩
 |(i,x)::rest,cells,k,ic,h=>by
  unfold GO at h;split at h
  next off size hpl=>
   rw[Ve]at hpl
   split at h
   next v hv=>
    have hx:=ic (i,x) (by simp) v hv;have⟨ds,h1,h2⟩:=Gu h;split at h2
    next hl=>
     have hl:=qQ hl;split at h2
     next h1s=>
      have h1s:=ad2 h1s;have X4:=wI h2;have⟨cs1,h3,h4⟩:=A6 h2 (by rcases X4 with h|h;exact .inr h;exact .inl h);have⟨ps,cs,h5,h6,h7⟩:=zG (s:=s) (fun q hq=>ic q (by simp[hq])) h4;refine⟨(i,bw ds)::ps,cs,?_,?_,h7⟩
      ·exact Rx hx h1 h5
      ·unfold lD
       rw[hpl];simp only;have hz:off+size<=(bw cells).length:=by
        rw[gC];rcases X4 with rfl|X4
        ·simp at hl;omega
        ·omega
       rw[aaR ⟨by rw[gC];exact hl,hz⟩,← h3];exact h6
     ·cases h2
    ·cases h2
   ·cases h
  ·cases h
def TW:List SC->List SC->List SC
 |[],r=>r
 |x::l,r=>x::TW l r
def Ox (zs:List SC):Nat->List SC->List SC
 |0,r=>r
 |n+1,r=>Ox zs n (TW zs r)
def Lo: ∀ l r:List SC,TW l r=l++r
 |[],_=>rfl
 |x::l,r=>by simp[TW,Lo l r]
def Ir (zs:List SC): ∀ (n:Nat) (r:List SC) (j:Nat),(Ox zs n r)[j]? =if j<n*zs.length then zs[j%zs.length]? else r[j-n*zs.length]?
 |0,r,j=>by simp[Ox]
 |n+1,r,j=>by
  rw[Ox,Ir zs n,Lo];by_cases h:j<n*zs.length
  ·rw[aaR h,aaR (by rw[acK];omega)]
  ·rw[aaQ h]
   by_cases h2:j<(n+1)*zs.length
   ·rw[aaR h2]
    rw[acK]at h2
    rw[abr (by omega)];congr 1;have e:j=(j-n*zs.length)+zs.length*n:=by rw[ae7 zs.length n];omega
    have e2:j%zs.length=j-n*zs.length:=by
     have e3:(j-n*zs.length+zs.length*n)%zs.length=j-n*zs.length:=by rw[Nat.add_mul_mod_self_left];exact Nat.mod_eq_of_lt (by omega)
     rwa [← e]at e3
    rw[e2]
   ·rw[aaQ h2]
    rw[acK]at h2
    rw[acV (by omega),acK];congr 1;omega
def RP (zs:List SC) (n:Nat) (hz:zs≠[]):dc (bw zs) n=bw (Ox zs n []):=by
 rw[kV];have h0:0<zs.length:=by cases zs with|nil=>exact absurd rfl hz|cons=>simp
 apply acR;intro j;simp[bw,abj,Ir,abk];by_cases h:j<n*zs.length
 ·rw[aaR h,acZ h]
  have hm:j%zs.length<zs.length:=afM _ h0;simp[GE hm,hm]
 ·rw[aaQ h,abw (by simpa using afr h)]
  simp
structure s9:Type 1 where
 α:Type
 z:Nat
 F:α->List au
 V:α->List SC
 M:List au->Option α
 d:α
structure s9.Ok (e:s9):Prop where
 len: ∀ x,(e.F x).length=e.z
 pos:0<e.z
def aV {α β:Type} (f:α->List β) (n:Nat) (h: ∀ x,(f x).length=n): ∀ l:List α,(l.flatMap f).length=l.length*n
 |[]=>by simp
 |x::l=>by simp[abP,acP,h x,aV f n h l,acY,acK];omega
def E9 {α:Type} {z:Nat} {F:α->List au} {d:α} (hF: ∀ x,(F x).length=z) (hz:0<z) (n:Nat):dc ((F d).map ab.f) n=((abV n d).flatMap F).map ab.f:=by
 rw[kV];apply acR;intro j;simp[abk,hF,abj];by_cases h:j<n*z
 ·rw[acZ h]
  have hj:(abV n d)[j / z]? =some d:=by
   rw[List.getElem?_replicate,aaR (Nat.div_lt_of_lt_mul (by rw[ae7];exact h))]
  have hm:j%z<z:=afM _ hz;have:=nr F z hF _ (j / z) (j%z) d hj hm;have e:j / z*z+j%z=j:=by rw[ae7];exact Nat.div_add_mod j z
  rw[e]at this
  rw[this];have h2:j%z<(F d).length:=by rw[hF];exact hm
  simp[GE h2,hF,hm]
 ·have hl:((abV n d).flatMap F).length<=j:=by rw[aV F z hF,List.length_replicate];omega
  rw[abw hl,abw (by simpa using afr h)];rfl
def fu {α β:Type} (f:α->List β) (n:Nat) (h: ∀ x,(f x).length=n): ∀ (l:List α) (i:Nat),(l.flatMap f).drop (i*n)=(l.drop i).flatMap f
 |[],i=>by simp
 |x::l,0=>by simp
 |x::l,i+1=>by
  rw[show(i+1)*n=(f x).length+i*n by rw[h,acK];omega,abP,List.drop_append];simp[ac1,afa];rw[ae6 (by omega),adX];exact fu f n h l i
def dH {α β:Type} (f:α->List β) (n:Nat) (h: ∀ x,(f x).length=n): ∀ (l:List α) (i:Nat),(l.flatMap f).take (i*n)=(l.take i).flatMap f
 |[],i=>by simp
 |x::l,0=>by simp
 |x::l,i+1=>by
  rw[show(i+1)*n=(f x).length+i*n by rw[h,acK];omega,abP,List.take_append];simp[ac1,List.take_succ_cons,abP];rw[acO (by omega),dH f n h l i]
section
variable {P:Program} {ops:Array Oper} {s:St} {d:Option Tmp} {ty:TypeId} {pos:String} {af:Array Edge} {T:Tb} {r:SR} {H:SH} {ev:Operand->Option SV}
def Fh (T:Tb) (ev:Operand->Option SV) (t:Nat) (parts:List (Nat×Operand)):Option SR:=
 match kI T.bi t with
 |some (zs,p)=>GO ev p zs parts fun cs=>some ⟨.agg cs,none,none,.q0,True⟩
 |none=>none
def KR (O:T.Ok P) {t:Nat} {parts:List (Nat×Operand)} (ic: ∀ q∈parts,∀ v,ev q.2=some v->s.ev q.2=v.den) (h:Fh T ev t parts=some r):p9 P ops ⟨d,.build t parts.toArray,ty,pos,af,none⟩ s r:=by
 intro rest R hp hk;unfold Fh at h;split at h
 next zs p hb=>
  have⟨ps,cs,h1,h2,h3⟩:=zG ic h;cases h3;exact Tz (O.aaj hb) h1 h2 hk
 ·cases h
def wJ (T:Tb) (ev:Operand->Option SV) (t n:Nat) (parts:List (Nat×Operand)):Option SR:=
 match kI T.ms t with
 |some (sz,_,z::zs)=>match afF (n*sz) 16777216 with
  |true=>GO ev (.elems sz) (Ox (z::zs) n []) parts fun cs=>Up cs fun fs=>some ⟨.c (.c (.bB true sz fs n)),none,none,.q0,True⟩
  |false=>none
 |_=>none
def Fi (O:T.Ok P) {t n:Nat} {parts:List (Nat×Operand)} (ic: ∀ q∈parts,∀ v,ev q.2=some v->s.ev q.2=v.den) (h:wJ T ev t n parts=some r):p9 P ops ⟨d,.buildSlice t n parts.toArray,ty,pos,af,none⟩ s r:=by
 intro rest R hp hk;unfold wJ at h;split at h
 next sz by_ z zs hm=>
  split at h
  next hle=>
   have⟨ps,cs,h1,h2,h3⟩:=zG ic h;have⟨fs,h4,h5⟩:=tw h3;cases h5;refine DB (O.Ra hm) h1 (ad2 hle) ?_ h4 hk;rw[RP _ _ (by simp)];exact h2
  ·cases h
 ·cases h
def Hv (P:Program):List (Nat×Nat×Bool×s9)->Prop
 |[]=>True
 |p::l=>(yJ P p.1 p.2.1 p.2.2.1 (p.2.2.2.F p.2.2.2.d)/\p.2.2.2.Ok)/\Hv P l
def An {P:Program}: ∀ {l:List (Nat×Nat×Bool×s9)},Hv P l-> ∀ p∈l,yJ P p.1 p.2.1 p.2.2.1 (p.2.2.2.F p.2.2.2.d)/\p.2.2.2.Ok
 |[],_,p,hp=>by cases hp
 |q::l,h,p,hp=>by
  rcases acB.1 hp with rfl|hp
  ·exact h.1
  ·exact An h.2 p hp
structure El:Type 1 where
 sl:List (Nat×s9)
 ar:List (Nat×Nat×s9)
 mp:List (Nat×Nat×Bool×s9):=[]
def YI:List (Nat×s9)->Prop
 |[]=>True
 |p::l=>p.2.Ok/\YI l
def H3: ∀ {E:List (Nat×s9)},YI E-> ∀ p∈E,p.2.Ok
 |[],_,p,hp=>by cases hp
 |q::l,h,p,hp=>by
  rcases acB.1 hp with rfl|hp
  ·exact h.1
  ·exact H3 h.2 p hp
structure El.Ok (E:El) (P:Program):Prop where
 eq:(E.sl.map fun p=>(eS P p.1).map fun q=>(q.1,q.2.2))=E.sl.map fun p=>some (p.2.z,(p.2.F p.2.d).map ab.f)
 ok:YI E.sl
 ar:(E.ar.map fun p=>(bK P p.1,ur P p.1,vC P p.1))=E.ar.map fun p=>(none,some (p.2.1,p.2.2.z),some (((abV p.2.1 p.2.2.d).flatMap p.2.2.F).map ab.f))
 mp:Hv P E.mp
def U1:List Nat:=[0,1,2,3,4,5,6,7,8,9,10,11,12,13,14,15,16,17,18,19,20,21,22,23,24,25,26,27,28,29,30,31,32,33,34,35,36,37,38,39]
def KO:SH->List Nat->SB->(Nat->SH->Option SR)->Option SR
 |[],n::_,b,k=>k n [some b]
 |x::H,_::ns,b,k=>KO H ns b fun m H'=>k m (x::H')
 |_,[],_,_=>none
def Dk (H:SH) (b:SB) (k:Nat->SH->Option SR):Option SR:=KO H U1 b k
def KY (E:El) (H:SH) (t:Nat) (bys:Option Nat) (l c:SV):Option SR:=
 match kI E.sl t with
 |some e=>match bys with
  |some by_=>match l with
   | .c (.c (.f (.v (.int k m))))=>match c with
    | .c (.c (.f (.v (.int j m'))))=>Dk H (.bF e.z e.F e.V e.M e.d (abV m.toNat e.d)) fun n H'=>some ⟨.c (.c (.arr n 0 m.toNat m.toNat)),none,some H',.Yy n,(0<=m/\m<=4611686018427387904/\(by_:Int)*m<=281474976710656)/\m=m'⟩
    |_=>none
   |_=>none
  |none=>none
 |none=>none
def Dj {b:SB}: ∀ {H:SH} {ns:List Nat} {k:Nat->SH->Option SR},KO H ns b k=some r-> ∃ n,ns[H.length]? =some n/\k n (H++[some b])=some r
 |[],[],k,h=>by cases h
 |[],n::ns,k,h=>⟨n,rfl,h⟩
 |x::H,[],k,h=>by cases h
 |x::H,m::ns,k,h=>by
  have⟨n,h1,h2⟩:=Dj (H:=H) (ns:=ns) h;exact⟨n,by simpa using h1,h2⟩
def HY: ∀ {i n:Nat},U1[i]? =some n->n=i:=by
 intro i n h;have hl:i<40:=(abq.1 h).1;have e:U1=acD 40:=by decide
 rw[e,acZ hl]at h
 injection h with h;exact h.symm
def rl {b:SB} {k:Nat->SH->Option SR} (h:Dk H b k=some r):k H.length (H++[some b])=some r:=by
 have⟨n,h1,h2⟩:=Dj h;rw[HY h1]at h2
 exact h2
def od (H:SH) (b:SB):bh (H++[some b])=bh H++[some b.den]:=by simp[bh,ob]
def OO (O:T.Ok P) {E:El} (hE:E.Ok P) (hH:s.H=bh H) {t:Nat} {l c:Operand} {v u:SV} (hl:s.ev l=v.den) (hc:s.ev c=u.den) (h:KY E H t ((kI T.ms t).map fun q=>q.2.1) v u=some r):p9 P ops ⟨d,.makeSlice t l c,ty,pos,af,none⟩ s r:=by
 intro rest R hp hk;unfold KY at h;split at h
 next e he=>
  have zR:=fZ he;have h1:=g7 hE.eq _ zR;have h2:=H3 hE.ok _ zR;simp only at h1 h2;split at h
  next by_ ym=>
   have⟨q,hq,Yf⟩:=abz.1 ym;have⟨a,b',zs⟩:=q;simp only at Yf;subst Yf;have hm:=O.Ra hq;rw[hm]at h1
   simp[adK,Option.some.injEq,Prod.mk.injEq]at h1;have⟨e1,e2⟩:=h1;split at h
   ·split at h
    ·have h3:=rl h
     cases h3;have⟨⟨p1,p2,p3⟩,p4⟩:=hp;subst p4;rw[e2]at hm
     refine W7 hm hl hc p1 p2 p3 (by rw[hH,aR]) (E9 h2.len h2.pos _) ?_ hk;rw[hH,od];rfl
    ·cases h
   ·cases h
  ·cases h
 ·cases h
def Fg (T:Tb) (E:El) (H:SH) (t:Nat):Option SR:=
 match kI E.ar t with
 |some (m,e)=>Dk H (.bF e.z e.F e.V e.M e.d (abV m e.d)) fun n H'=>some ⟨.c (.c (.ptr n 0)),none,some H',.Yy n,True⟩
 |none=>match kI T.ze t with
  |some zs=>Dk H (.cells zs) fun n H'=>some ⟨.c (.c (.ptr n 0)),none,some H',.Yy n,True⟩
  |none=>none
def El.Ok.V4 {E:El} (hE:E.Ok P) {t m:Nat} {e:s9} (h:kI E.ar t=some (m,e)):bK P t=none/\ur P t=some (m,e.z)/\vC P t=some (((abV m e.d).flatMap e.F).map ab.f):=by
 have h1:=g7 hE.ar _ (fZ h);simp[Prod.mk.injEq]at h1;exact h1
def KP (O:T.Ok P) {E:El} (hE:E.Ok P) (hH:s.H=bh H) {t:Nat} (h:Fg T E H t=some r):p9 P ops ⟨d,.alloc t,ty,pos,af,none⟩ s r:=by
 intro rest R hp hk;unfold Fg at h;split at h
 next m e he=>
  have h3:=rl h;cases h3;exact La (hE.V4 he).2.2 (by rw[hH,aR]) (by rw[hH,od];rfl) hk
 ·split at h
  next zs hz=>
   have h3:=rl h;cases h3;exact La (O.acy hz) (by rw[hH,aR]) (by rw[hH,od];rfl) hk
  ·cases h
def Pg {t:TypeId} {x i:Operand} {n:Int} {m z b off oE:Nat} {k:IntKind} (hz:bK P t=none) (ha:ur P t=some (m,z)) (hx:s.ev x= .c (.ptr b off)) (hi:s.ev i= .c (.f (.v (.int k n)))) (h0:0<=n) (h1:n<m) (ho:off+n.toNat*z=oE)
  (h:WR P ops rest (s.put d (.c (.ptr b oE))) (R.push .q0)):WR P ops (⟨d,.indexAddr t x i,ty,pos,af,none⟩::rest) s R:=by
 refine dE (aF rfl) rfl ?_ (ep rfl rfl rfl) h;show eW P s t x i=_;unfold eW;rw[hi];simp only[al.ix];rw[aaR h0,hz,ha,hx];simp only[al.aZ,ab.aZ,aaR h1,ho]
def Sk (E:El) (H:SH) (t:Nat) (v i:SV):Option SR:=
 match kI E.ar t with
 |some (m,e)=>match i with
  | .c (.c (.f (.v (.int k n))))=>match v with
   | .c (.c (.ptr b off))=>match nth H b with
    |some (some (.bF z' F V M e' l))=>match abO e.z z',abO off 0 with
     |true,true=>some ⟨.c (.Bu b z' n 0),none,none,.q0,0<=n/\n<m⟩
     |_,_=>none
    |_=>none
   |_=>none
  |_=>none
 |none=>none
def Sl {E:El} (hE:E.Ok P) {t:Nat} {x i:Operand} {v u:SV} (hx:s.ev x=v.den) (hi:s.ev i=u.den) (h:Sk E H t v u=some r):p9 P ops ⟨d,.indexAddr t x i,ty,pos,af,none⟩ s r:=by
 intro rest R hp hk;unfold Sk at h;split at h
 next m e he=>
  have⟨h1,h2,_⟩:=hE.V4 he;split at h
  ·split at h
   ·split at h
    ·split at h
     next hb hb2=>
      have hb:=abg hb;have hb2:=abg hb2;subst hb2;cases h;exact Pg h1 h2 hx hi hp.1 hp.2 (by rw[hb];omega) hk
     ·cases h
    ·cases h
   ·cases h
  ·cases h
 ·cases h
def Sf (H:SH) (v:SV):Option SR:=Ly v fun ds=>Dk H (.cells ds) fun n H'=>some ⟨.c (.c (.ptr n 0)),none,some H',.Yy n,True⟩
def Sg (hH:s.H=bh H) {t:Nat} {x:Operand} {v:SV} (hx:s.ev x=v.den) (h:Sf H v=some r):p9 P ops ⟨d,.box t x,ty,pos,af,none⟩ s r:=by
 intro rest R hp hk;unfold Sf at h;have⟨ds,h1,h2⟩:=Gu h;have h3:=rl h2;cases h3;exact ZW hx h1 (by rw[hH,aR]) (by rw[hH,od];rfl) hk
def boI (ev:Operand->Option SV) (x:Option Operand) (k:Option Int->Option SR):Option SR:=
 match x with
 |none=>k none
 |some o=>match ev o with
  |some (.c (.c (.f (.v (.int _ n)))))=>k (some n)
  |_=>none
def vt (T:Tb) (ev:Operand->Option SV) (t:Nat) (v:SV) (lo hi:Option Operand):Option SR:=
 boI ev lo fun lo=>boI ev hi fun hi=>match v with
 | .c (.c (.f (.v (.string b))))=>match BO T.st t with
  |true=>match lo,hi with
   |none,none=>some ⟨sV (b.extract 0 b.size),none,none,.q0,True⟩
   |some l,none=>some ⟨sV (b.extract l.toNat b.size),none,none,.q0,0<=l/\l<=b.size⟩
   |none,some h=>some ⟨sV (b.extract 0 h.toNat),none,none,.q0,0<=h/\h<=b.size⟩
   |some l,some h=>some ⟨sV (b.extract l.toNat h.toNat),none,none,.q0,0<=l/\l<=h/\h<=b.size⟩
  |false=>none
 | .c (.row z F V e l)=>rows z F V e l (kI T.es t) lo hi
 | .c (.cX z F V M e l)=>rows z F V e l (kI T.es t) lo hi
 | .c (.c (.arr b off n cap))=>match kI T.es t with
  |some z=>match lo,hi with
   |none,some h=>some ⟨.c (.c (.arr b off h.toNat cap)),none,none,.q0,0<=h/\h<=n/\n<=cap⟩
   |some a,none=>some ⟨.c (.c (.arr b (off+a.toNat*z) ((n:Int)-a).toNat (cap-a.toNat))),none,none,.q0,0<=a/\a<=n/\n<=cap/\a<cap⟩
   |_,_=>none
  |none=>none
 |_=>none
where rows {α:Type} (z:Nat) (F:α->List au) (V:α->List SC) (e:α) (l:List α) (es:Option Nat) (lo hi:Option Int):Option SR:=
 match es with
 |some z'=>match abO z z' with
  |true=>match lo,hi with
   |none,none=>some ⟨.c (.row z F V e l),none,none,.q0,∀ x,(F x).length=z⟩
   |some a,none=>some ⟨.c (.row z F V e (l.drop a.toNat)),none,none,.q0,(0<=a/\a<=l.length)/\ ∀ x,(F x).length=z⟩
   |none,some b=>some ⟨.c (.row z F V e (l.take b.toNat)),none,none,.q0,(0<=b/\b<=l.length)/\ ∀ x,(F x).length=z⟩
   |some a,some b=>some ⟨.c (.row z F V e ((l.drop a.toNat).take (b-a).toNat)),none,none,.q0,(0<=a/\a<=b/\b<=l.length)/\ ∀ x,(F x).length=z⟩
  |false=>none
 |none=>none
def PY {x:Option Operand} {k:Option Int->Option SR} (h:boI ev x k=some r) (ic: ∀ o,x=some o-> ∀ v,ev o=some v->s.ev o=v.den): ∃ n,k n=some r/\((x=none/\n=none)\/ ∃ m,n=some m/\ ∀ d,jg s x d=some m):=by
 unfold boI at h;split at h
 ·exact⟨none,h,.inl ⟨rfl,rfl⟩⟩
 next o=>
  split at h
  next k' n hn=>
   refine⟨some n,h,.inr ⟨n,rfl,fun d=> ?_⟩⟩;exact uy (ic o rfl _ hn)
  ·cases h
def Dl (O:T.Ok P) {t:Nat} {x:Operand} {lo hi:Option Operand} {α:Type} {z:Nat} {F:α->List au} {V:α->List SC} {e:α} {l:List α} {v:al} (hx:s.ev x=v) (hv:v.aZ= .c (.f (.row (l.flatMap F) l.length))) {a b:Option Int}
  (ha:(lo=none/\a=none)\/ ∃ m,a=some m/\ ∀ d,jg s lo d=some m) (hb:(hi=none/\b=none)\/ ∃ m,b=some m/\ ∀ d,jg s hi d=some m) (h:vt.rows z F V e l (kI T.es t) a b=some r):p9 P ops ⟨d,.slice t x lo hi none,ty,pos,af,none⟩ s r:=by
 intro rest R hp hk;unfold vt.rows at h;split at h
 next z' hz=>
  have hz:=O.sO hz;split at h
  next FI=>
   have FI:=abg FI;subst FI;split at h
   ·cases h
    obtain⟨rfl,_⟩:lo=none/\True:=by rcases ha with h|⟨m,h,_⟩;exact⟨h.1,trivial⟩;cases h
    obtain⟨rfl,_⟩:hi=none/\True:=by rcases hb with h|⟨m,h,_⟩;exact⟨h.1,trivial⟩;cases h
    refine nk hz hx hv rfl rfl (by omega) (by omega) (by omega) ?_ ?_ hk
    ·rw[show(0:Int).toNat=0 from rfl,ad1,aeD,afG,aeh,dH F z hp,List.take_length]
    ·simp
   next a'=>
    cases h;have⟨⟨h0,h1⟩,hF⟩:=hp;obtain⟨rfl,_⟩:hi=none/\True:=by rcases hb with h|⟨m,h,_⟩;exact⟨h.1,trivial⟩;cases h
    have ha: ∀ d,jg s lo d=some a':=by rcases ha with ⟨_,h⟩|⟨m,h,h2⟩;cases h;cases h;exact h2
    refine nk hz hx hv (ha 0) rfl h0 h1 (by omega) ?_ ?_ hk
    ·rw[fu F z hF,dH F z hF,acO (by rw[acX];omega)]
    ·rw[acX];omega
   next b'=>
    cases h;have⟨⟨h0,h1⟩,hF⟩:=hp;obtain⟨rfl,_⟩:lo=none/\True:=by rcases ha with h|⟨m,h,_⟩;exact⟨h.1,trivial⟩;cases h
    have hb: ∀ d,jg s hi d=some b':=by rcases hb with ⟨_,h⟩|⟨m,h,h2⟩;cases h;cases h;exact h2
    refine nk hz hx hv rfl (hb _) (by omega) h0 h1 ?_ ?_ hk
    ·rw[show(0:Int).toNat=0 from rfl,ad1,aeD,afG,dH F z hF]
    ·rw[adI];omega
   next a' b'=>
    cases h;have⟨⟨h0,h1,h2⟩,hF⟩:=hp;have ha: ∀ d,jg s lo d=some a':=by rcases ha with ⟨_,h⟩|⟨m,h,h2⟩;cases h;cases h;exact h2
    have hb: ∀ d,jg s hi d=some b':=by rcases hb with ⟨_,h⟩|⟨m,h,h2⟩;cases h;cases h;exact h2
    refine nk hz hx hv (ha 0) (hb _) h0 h1 h2 ?_ ?_ hk
    ·rw[fu F z hF,dH F z hF]
    ·rw[adI,acX];omega
  ·cases h
 ·cases h
def FU {t:TypeId} {x:Operand} {hi:Operand} {z b off n cap:Nat} {h':Int} (hz:bK P t=some z) (hx:s.ev x= .c (.arr b off n cap)) (hh:jg s (some hi) n=some h') (h0:0<=h') (h1:h'<=cap) (h:WR P ops rest (s.put d (.c (.arr b off h'.toNat cap))) (R.push .q0)):
  WR P ops (⟨d,.slice t x none (some hi) none,ty,pos,af,none⟩::rest) s R:=by
 refine dE (aF rfl) rfl ?_ (ep rfl rfl rfl) h;show fD P s _ t x none (some hi) none=_;unfold fD;rw[hz,hx];have e:(al.c (ab.arr b off n cap)).aZ= .c (.arr b off n cap):=rfl;rw[e];simp[hh];have h2:jg s none 0=some 0:=rfl;rw[h2];simp only;rw[aaR ⟨by omega,h0,h1⟩];simp
def DF {t:TypeId} {x:Operand} {lo:Operand} {z b off n cap:Nat} {a:Int} (hz:bK P t=some z) (hx:s.ev x= .c (.arr b off n cap)) (hh:jg s (some lo) 0=some a) (h0:0<=a) (h1:a<=n) (h2:n<=cap) (h3:a<cap) (h:WR P ops rest (s.put d (.c (.arr b (off+a.toNat*z) ((n:Int)-a).toNat (cap-a.toNat)))) (R.push .q0)):
  WR P ops (⟨d,.slice t x (some lo) none none,ty,pos,af,none⟩::rest) s R:=by
 refine dE (aF rfl) rfl ?_ (ep rfl rfl rfl) h;show fD P s _ t x (some lo) none none=_;unfold fD;rw[hz,hx];have e:(al.c (ab.arr b off n cap)).aZ= .c (.arr b off n cap):=rfl;rw[e];simp[hh];have h4:jg s none (n:Int)=some (n:Int):=rfl;rw[h4];simp only;rw[aaR ⟨h0,h1,by omega⟩,aaQ (by omega)]
def K1 (O:T.Ok P) {t:Nat} {x:Operand} {v:SV} {lo hi:Option Operand} (hx:s.ev x=v.den) (X5: ∀ o,lo=some o-> ∀ v,ev o=some v->s.ev o=v.den) (O3: ∀ o,hi=some o-> ∀ v,ev o=some v->s.ev o=v.den) (h:vt T ev t v lo hi=some r):p9 P ops ⟨d,.slice t x lo hi none,ty,pos,af,none⟩ s r:=by
 unfold vt at h;have⟨a,h',ha⟩:=PY h X5;clear h;have⟨b,h,hb⟩:=PY h' O3;clear h';split at h
 next b0=>
  intro rest R hp hk;split at h
  next ht=>
   have ht:=O.SD ht;split at h
   ·cases h
    obtain⟨rfl,_⟩:lo=none/\True:=by rcases ha with h|⟨m,h,_⟩;exact⟨h.1,trivial⟩;cases h
    obtain⟨rfl,_⟩:hi=none/\True:=by rcases hb with h|⟨m,h,_⟩;exact⟨h.1,trivial⟩;cases h
    refine nl ht hx rfl rfl (by omega) (by omega) (by omega) ?_;rw[aeh];exact hk
   next a'=>
    cases h;obtain⟨rfl,_⟩:hi=none/\True:=by rcases hb with h|⟨m,h,_⟩;exact⟨h.1,trivial⟩;cases h
    have ha: ∀ d,jg s lo d=some a':=by rcases ha with ⟨_,h⟩|⟨m,h,h2⟩;cases h;cases h;exact h2
    refine nl ht hx (ha _) rfl hp.1 hp.2 (by omega) ?_;rw[aeh];exact hk
   next b'=>
    cases h;obtain⟨rfl,_⟩:lo=none/\True:=by rcases ha with h|⟨m,h,_⟩;exact⟨h.1,trivial⟩;cases h
    have hb: ∀ d,jg s hi d=some b':=by rcases hb with ⟨_,h⟩|⟨m,h,h2⟩;cases h;cases h;exact h2
    exact nl ht hx rfl (hb _) (by omega) hp.1 hp.2 hk
   next a' b'=>
    cases h;have ha: ∀ d,jg s lo d=some a':=by rcases ha with ⟨_,h⟩|⟨m,h,h2⟩;cases h;cases h;exact h2
    have hb: ∀ d,jg s hi d=some b':=by rcases hb with ⟨_,h⟩|⟨m,h,h2⟩;cases h;cases h;exact h2
    exact nl ht hx (ha _) (hb _) hp.1 hp.2.1 hp.2.2 hk
  ·cases h
 ·exact Dl O hx rfl ha hb h
 ·exact Dl O hx rfl ha hb h
 ·intro rest R hp hk
  split at h
  next z hz=>
   split at h
   next b'=>
    cases h;obtain⟨rfl,_⟩:lo=none/\True:=by rcases ha with h|⟨m,h,_⟩;exact⟨h.1,trivial⟩;cases h
    have hb2: ∃ o,hi=some o:=by rcases hb with ⟨_,h⟩|⟨m,h,h2⟩;cases h;cases hi;exact absurd (h2 (m+1)) (by simp[jg];omega);exact⟨_,rfl⟩
    obtain⟨o,rfl⟩:=hb2;have hb: ∀ d,jg s (some o) d=some b':=by rcases hb with ⟨_,h⟩|⟨m,h,h2⟩;cases h;cases h;exact h2
    exact FU (O.sO hz) hx (hb _) hp.1 (by have⟨_,h2,h3⟩:=hp;omega) hk
   next a'=>
    cases h;obtain⟨rfl,_⟩:hi=none/\True:=by rcases hb with h|⟨m,h,_⟩;exact⟨h.1,trivial⟩;cases h
    have ha2: ∃ o,lo=some o:=by rcases ha with ⟨_,h⟩|⟨m,h,h2⟩;cases h;cases lo;exact absurd (h2 (m+1)) (by simp[jg];omega);exact⟨_,rfl⟩
    obtain⟨o,rfl⟩:=ha2;have ha: ∀ d,jg s (some o) d=some a':=by rcases ha with ⟨_,h⟩|⟨m,h,h2⟩;cases h;cases h;exact h2
    exact DF (O.sO hz) hx (ha _) hp.1 hp.2.1 hp.2.2.1 hp.2.2.2 hk
   ·cases h
  ·cases h
 ·cases h
end
open Go.MapKept
def vH.map {w:World} {κ:Nat->BK} {ρ:Nat->Nat} {b:Nat} {q:Bool} {es:List (List Int×List au)} (h:vH w κ ρ b [.mp q es]): ∃ en ck,w.heap[ρ b]? =some (.map en ck)/\vJ w κ q es en:=by
 rcases h.obj with ⟨c,e,h1,h2,h3⟩|⟨q',BC,en,ck,h1,h2,h3⟩
 ·exact(h3 0 (by simp) (by simp at h2;omega)).elim
 ·injection h1 with h1
  injection h1 with e1 e2;subst e1;subst e2;exact⟨en,ck,h2,h3⟩
def Rel.YB {s:St} {a:Act} {w:World} (h:Rel s a w κ ρ) (q:Bool):
  Rel { s with H:=s.H++[some [.mp q []]] } a (w.alloc (.map #[] 0)) (fq κ w.heap.size (.wr s.H.length)) (fq ρ s.H.length w.heap.size):=by
 have m:=fF s.H.length w κ ρ (.map #[] 0) (.wr s.H.length) (fq ρ s.H.length w.heap.size) (fun b hb=>aH _ _ (by omega));have hR:=h.mv m (fun _ h=>h);have hlen:(s.H++[some [ab.mp q []]]).length=s.H.length+1:=by simp
 refine⟨hR.defers,hR.slot,hR.out,fun i=>al.iO (by rw[hlen];omega) _ (hR.ok i),⟨fun b ds hb=> ?_,fun b ds hb=> ?_⟩⟩
 ·rcases acC b s.H.length with hlt|hge
  ·have hb':s.H[b]? =some (some ds):=by rwa [abr hlt]at hb
   exact hR.heap.eu b ds hb'
  ·have hbe:b=s.H.length:=by
    rcases acC b (s.H++[some [ab.mp q []]]).length with k|k
    ·rw[hlen]at k;omega
    ·rw[abw k]at hb;cases hb
   subst hbe;rw[acV (acE _)]at hb
   simp at hb;subst hb;exact⟨by rw[aQ,aQ],.inr ⟨q,[],#[],0,rfl,by rw[aQ,o0,aaR rfl],rfl,fun i h=>by simp at h⟩⟩
 ·intro x hx
  rw[hlen];rcases acC b s.H.length with hlt|hge
  ·have hb':s.H[b]? =some (some ds):=by rwa [abr hlt]at hb
   exact ab.iO (by omega) _ (h.heap.ok b ds hb' x hx)
  ·have hbe:b=s.H.length:=by
    rcases acC b (s.H++[some [ab.mp q []]]).length with k|k
    ·rw[hlen]at k;omega
    ·rw[abw k]at hb;cases hb
   subst hbe;rw[acV (acE _)]at hb
   simp at hb;subst hb;rw[acG.1 hx];rfl
def N5 {n:Nat} {w:World} {g b:Nat} (hg:κ g= .wr b) (o:Obj):Mv (·=g) n w κ ρ { w with heap:=w.heap.setIfInBounds g o } κ ρ:=by
  refine⟨rfl,rfl,rfl,by simp,fun _ _=>rfl,fun j _ hj=>⟨?_,rfl⟩,fun j p x hj hT hf=> ?_,fun _ _ _ _ h=>h,fun j m hT=> ?_⟩
  ·show(w.heap.setIfInBounds g o)[j]? =_
   rw[Array.getElem?_setIfInBounds_ne (fun e=>hj e.symm)]
  ·subst hT;rw[hg]at hf;simp[BK.fits]at hf
  ·subst hT;rw[hg];intro e;cases e
section
variable {P:Program} {o:Oper} {s:St} {t:TypeId} {m k v:Operand} {c:Bool} {n:Nat} {q:Bool} {zs:List au} {b:Nat} {es:List (List Int×List au)} {ks:List Int}
def Vy (ho:o.op= .makeMap t none) (q:Bool):sF P o s (.c (.mh s.H.length)) { new:=some [.mp q []] } []:=by
 refine⟨fun s' h1 h2 h3 a w κ ρ hR=> ?_,fun b cs e=>(by cases e),rfl⟩;have e:=h3 rfl;refine⟨.map (some w.heap.size),_,_,_,.inl ?_,hR.YB q,fun d _=> ?_,?_,(fF s'.H.length w κ ρ (.map #[] 0) _ ρ (fun _ _=>rfl)).fr,fun b hb=>aH _ _ (by omega)⟩
 ·simp[execOp,ho,Instr.makeMap]
 ·show _=_
  rw[e,aQ]
 ·rw[e]
  simp[al.ok,ab.ok,St.kZ,St.ir,St.qy,St.qW]
def zV {x:al} {ks:List Int} (h:pk x=some ks):x.aZ=x:=by
 unfold pk at h;split at h
 ·rfl
 ·rfl
 ·cases h
def Rel.PT {a:Act} {w:World} (hR:Rel s a w κ ρ) {x:Operand} (h:s.ev x= .c (.mh b)):a.eval x= .map (some (ρ b)):=by
 have:=hR.ev (l:= .slot 0) x;rw[h]at this
 exact this
def Ai (q:Bool) (fs:List au) (c is:Bool):al:=bif c then .dt [Fy q fs,.c (.f (.v (.bool is)))]else(Fy q fs).toA
def OG (ho:o.op= .lookup t m k c) (hT:yJ P t n q zs) (hm:s.ev m= .c (.mh b)) (hb:s.H[b]? =some (some [.mp q es])) (hk:pk (s.ev k)=some ks) (hn:ks.length=n) (hok:Tq n es=true):sF P o s (Ai q ((ke es ks).getD zs) c (ke es ks).isSome) {} [b]:=by
 refine⟨fun s' h1 h2 _ a w κ ρ hR=> ?_,fun b cs e=>(by cases e),rfl⟩;rw[h1 m (by rw[ho];simp[aca])]at hm
 rw[h1 k (by rw[ho];simp[aca])]at hk
 rw[h2 b (by simp)]at hb
 have⟨en,ck,hg,hM⟩:=(hR.heap.eu b _ hb).map;have Tl:=hR.ev (l:= .slot 0) k;rw[zV hk]at Tl
 have Tl:=zW hk Tl;have⟨x,hrun,hx⟩:=Kn hT hg hM hok hn c;refine⟨if c then .tuple #[x,.bool (ke es ks).isSome]else x,w,κ,ρ,.inl (by simp[execOp,ho,hR.PT hm,Tl,hrun]),hR,fun d _=> ?_,?_,Fr.refl _ _,fun _ _=>rfl⟩
 ·cases c with
  |true=>
   refine⟨_,rfl,rfl,fun i hi hi'=> ?_⟩
   match i,hi,hi' with
   |0,_,_=>exact I0 hx
   |1,_,_=>exact⟨rfl,cQ.v _ rfl⟩
  |false=>exact VI (I0 hx)
 ·cases c with
  |true=>
   simp[Ai,cond_true,al.ok,aeZ,List.all_nil,MY,Bool.true_and,aeE];rfl
  |false=>exact Za (MY _ _ _)
def valOf:Bool->al->Option (List au)
 |false,.c (.f x)=>some [x]
 |true,.agg cs=>fvs cs
 |_,_=>none
where fvs:List ab->Option (List au)
 |[]=>some []
 | .f x::l=>match fvs l with
  |some r=>some (x::r)
  |none=>none
 |_=>none
def Qu: ∀ {l:List ab} {r:List au},valOf.fvs l=some r->l=r.map ab.f
 |[],r,h=>by cases h;rfl
 |c::l,r,h=>by
  unfold valOf.fvs at h;split at h
  ·rename_i e;cases e
  next x l' e=>
   injection e with e1 e2;subst e1;subst e2;split at h
   next r' hr=>
    cases h;rw[abh,← Qu hr]
   ·cases h
  ·cases h
def OW {w:World} {l:Loc} {x:al} {y:Value} (h:valOf q x=some vs) (hr:cm w κ ρ l x y):oU w κ q vs y:=by
 unfold valOf at h;split at h
 ·cases h
  exact⟨_,rfl,hr⟩
 ·have e:=Qu h
  subst e;obtain⟨us,rfl,hs,hv⟩:=hr;refine⟨us,rfl,by simpa using hs,fun i h1 h2=> ?_⟩;have:=(hv i (by simpa using h1) h2).2;rw[abA]at this
  exact this
 ·cases h
def IX {vs0:List au} (h:ke es ks=some vs0):VN es ks vs=es.map fun p=>if p.1==ks then(p.1,vs)else p:=by unfold VN;rw[h]
def IW (h:ke es ks=none):VN es ks vs=es++[(ks,vs)]:=by unfold VN;rw[h]
def Dd (ho:o.op= .mapUpdate t m k v) (hT:yJ P t n q zs) (hm:s.ev m= .c (.mh b)) (hb:s.H[b]? =some (some [.mp q es])) (hk:pk (s.ev k)=some ks) (hv:valOf q (s.ev v).aZ=some vs) (hn:ks.length=n) (hok:Tq n es=true):sF P o s (.c .any) { eu:=some (b,[.mp q (VN es ks vs)]) } [b]:=by
 refine⟨fun s' h1 h2 _ a w κ ρ hR=> ?_,fun b' cs e=>(by cases e;exact⟨by simp,Dy hb⟩),rfl⟩;rw[h1 m (by rw[ho];simp[aca])]at hm
 rw[h1 k (by rw[ho];simp[aca])]at hk
 rw[h1 v (by rw[ho];simp[aca])]at hv
 rw[h2 b (by simp)]at hb
 have hB:=hR.heap.eu b _ hb;have⟨en,ck,hg,hM⟩:=hB.map;have Tl:=hR.ev (l:= .slot 0) k;rw[zV hk]at Tl
 have Tl:=zW hk Tl;have hvr:=OW hv (hR.ev (l:= .slot 0) v);have⟨kt,et,ht,K,_⟩:=hT.ty;have hc:=K.check w false ks hn;have hown:=hB.own;have key: ∀ (Wd:Array MapEntry) (Xw:Nat),(aew t (a.eval m) (a.eval k) (a.eval v)).run P w= .ok () { w with heap:=w.heap.setIfInBounds (ρ b) (.map Wd Xw) }->vJ w κ q (VN es ks vs) Wd->
   ∃ v' w' κ' ρ',Yields P o a w v' w'/\Rel (s'.kZ { eu:=some (b,[.mp q (VN es ks vs)]) }) a w' κ' ρ'/\(∀ d,o.dst=some d->cm w' κ' ρ' (.slot d) (.c .any) v')/\(al.c .any).ok (s'.kZ { eu:=some (b,[.mp q (VN es ks vs)]) }).H.length=true/\Fr w κ w' κ'/\(∀ b,b<s'.H.length->ρ' b=ρ b):=by
  intro Wd Xw hrun hM';have mv:=N5 (n:=s'.H.length) (w:=w) (ρ:=ρ) hown (.map Wd Xw);have hg':({ w with heap:=w.heap.setIfInBounds (ρ b) (.map Wd Xw) }:World).heap[ρ b]? =some (.map Wd Xw):=by
   show(w.heap.setIfInBounds (ρ b) (.map Wd Xw))[ρ b]? =_;rw[Array.getElem?_setIfInBounds_self_of_lt (mT hg)]
  refine⟨undef,_,κ,ρ,.inr ⟨by simp[execOp,ho,hrun],rfl⟩,hR.wu hb mv ⟨hown,.inr ⟨q,_,Wd,Xw,rfl,hg',hM'.1,fun i h1 h2=>⟨(hM'.2 i h1 h2).1,(hM'.2 i h1 h2).2.grow mv.grow⟩⟩⟩ (fun x hx=>by rw[acG.1 hx];rfl),fun _ _=>trivial,rfl,mv.fr,fun _ _=>rfl⟩
 rcases LR K hM hok hn with ⟨vs0,l1,j,x,l2,l3,l4,l5,l6,l7⟩|⟨l1,l2⟩
 ·refine key (en.modify j fun e=>{ e with key:=gf ks,val:=a.eval v }) ck ?_ ?_
  ·have mq:=stays (P:=P) w ks
   rw[hR.PT hm,Tl];simp[aew,run_underlying ht,aei hg,hc,l2,l3,l4,mq,aes _ hg,afp]
  ·rw[IX l1]
   refine⟨by simp[hM.1],fun i h1 h2=> ?_⟩;have hi1:i<es.length:=by simpa using h1
   have hi2:i<en.size:=by simpa using h2
   rw[abA,Array.getElem_modify];have uL:=hok;unfold Tq at uL;rw[ada]at uL
   by_cases e:j=i
   ·subst e
    rw[aaR rfl];have:(es[j].1==ks)=true:=by rw[l7];exact beq_self_eq_true ks
    rw[aaR this,l7];exact⟨rfl,hvr⟩
   ·rw[aaQ e]
    have hne: ¬ (es[i].1==ks)=true:=by
     intro h;have h3:es[i].1=ks:=eq_of_beq h;have hnd:=of_decide_eq_true uL.2;have h4:=List.pairwise_iff_getElem.1 hnd;have g1:(es.map acz)[i]'(by simpa using hi1)=ks:=by simpa using h3
     have g2:(es.map acz)[j]'(by simpa using l6)=ks:=by simpa using l7
     rcases Nat.lt_trichotomy i j with hlt|rfl|hlt
     ·exact h4 i j (by simpa using hi1) (by simpa using l6) hlt (g1.trans g2.symm)
     ·exact e rfl
     ·exact h4 j i (by simpa using l6) (by simpa using hi1) hlt (g2.trans g1.symm)
    rw[aaQ hne];exact hM.2 i hi1 hi2
 ·refine key (en.push { key:=gf ks,val:=a.eval v,born:=ck }) (ck+1) ?_ ?_
  ·rw[hR.PT hm,Tl]
   simp[aew,run_underlying ht,aei hg,hc,l2,aes _ hg,afp]
  ·rw[IW l1]
   refine⟨by simp[hM.1],fun i h1 h2=> ?_⟩;have hs:=hM.1;rcases acC i es.length with hlt|hge
   ·rw[List.getElem_append_left hlt,Array.getElem_push_lt (by omega)]
    exact hM.2 i hlt (by omega)
   ·have:i=es.length:=by simp at h1;omega
    subst this;rw[List.getElem_append_right (acE _)];have e2:(en.push { key:=gf ks,val:=a.eval v,born:=ck:MapEntry })[es.length]'h2={ key:=gf ks,val:=a.eval v,born:=ck }:=by
     simp[← hs]
    rw[e2];refine⟨?_,?_⟩
    ·simp
    ·simpa using hvr
end
end Av
end Go.Proofs.YtjkeeocnekggfaaGreat
