
import Derived.Test.YtjkeeocnekggfaaGreatPXA
set_option linter.unusedVariables false
set_option linter.unusedSimpArgs false
set_option maxRecDepth 4000
set_option maxHeartbeats 4000000
namespace Go.Proofs.YtjkeeocnekggfaaGreat.Av
def Qa (n:Nat) (x:ad):ad:=if x.ok n then x else .c .any
def gc (n:Nat) (s:St):St:=⟨fun i=>Qa n (s.sl i),s.H.take n⟩
def Sq (n:Nat) (s:St):Bool:=(s.H.take n).all (okB n)
theorem Nt {n0 n:Nat} {s:St} (h0:n0<=n) (h1:n<=s.H.length) (h:Sq n s=true):di n0 s (gc n s):=by
 have hlen:(s.H.take n).length=n:=by rw[List.length_take];omega
 refine .i (by show n0<=(s.H.take n).length;omega) fun a w κ ρ hR=>⟨hR.defers,fun i hi'=> ?_,fun i hi=> ?_,fun i=> ?_,⟨fun b cs hb=> ?_,fun b cs hb x hx=> ?_⟩⟩
 ·simp only[gc]
  unfold Qa;split
  ·exact hR.slot i hi'
  ·trivial
 ·simp only[gc,Qa]
  rw[hR.out i hi];rfl
 ·simp only[gc]
  rw[hlen];unfold Qa;split
  ·rename_i hy;exact hy
  ·rfl
 ·simp only[gc] at hb
  rw[List.getElem?_take] at hb;split at hb
  ·exact hR.heap.dk b cs hb
  ·cases hb
 ·simp only[gc] at hb⊢
  rw[hlen];have:=List.all_eq_true.1 h (some cs) (List.mem_of_getElem? hb);exact List.all_eq_true.1 this x hx
theorem En {n0:Nat} {s s2:St} (h0:n0<=s.H.length) (hH:s2.H=s.H) (h: ∀ i,s2.sl i=s.sl i\/s2.sl i= .c .any):di n0 s s2:=by
 refine .i (by rw[hH];exact h0) fun a w κ ρ hR=>⟨hR.defers,fun i hi'=> ?_,fun i hi=> ?_,fun i=> ?_,by rw[hH];exact hR.heap⟩
 ·rcases h i with e|e
  ·rw[e];exact hR.slot i hi'
  ·rw[e];trivial
 ·rcases h i with e|e
  ·rw[e];exact hR.out i hi
  ·exact e
 ·rw[hH]
  rcases h i with e|e
  ·rw[e];exact hR.ok i
  ·rw[e];rfl
def ad.t:ad->Option bj
 | .c x=>some (.c x)
 | .agg cs=>some (.agg cs)
 | .cC _=>none
theorem ad.N3 {w:World} {κ:Nat->BK} {ρ:Nat->Nat} {l:Loc} {x:ad} {y:bj} {v:Value} (h:bM w κ ρ l x.aQ v) (e:x.aQ.t=some y):dN w κ ρ l y v:=by
 cases x with
 |c x=>injection e with e;subst e;exact ⟨aa.gb x,h⟩
 |agg cs=>injection e with e;subst e;exact h
 |cC ts=>cases e
theorem At {P:Program} {s:St} {t:TypeId} {x:Operand} {r:ad} {ch:eJ} (h:eb P false s t x=some (r,ch)) {a:Act} {w:World} {κ:Nat->BK} {ρ:Nat->Nat} (hR:Rel s a w κ ρ):
  ∃ p v,a.eval x= .pointer (some p)/\(loadVar t p).run P w= .ok v w/\(∀ l,bM w κ ρ l r v)/\r.ok s.H.length=true/\r.aQ=r:=by
 have key: ∀ {p v},(Instr.loadAt t (.pointer (some p))).run P w= .ok v w->(loadVar t p).run P w= .ok v w:=fun {p v} hh=>by
  simpa[Instr.loadAt,Instr.sureAddr] using hh
 unfold eb at h;split at h
 ·rename_i n cs off ht he
  split at h
  ·rename_i y hy
   injection h with h;injection h with h1 h2;subst h1;subst h2;obtain ⟨g,oo,hv,hrow⟩:=hR.um he;obtain ⟨hi,hyy⟩:=List.getElem?_eq_some_iff.1 hy;obtain ⟨v,hc,hr⟩:=hrow.cell off hi;rw[hyy] at hr;exact ⟨_,v,hv,key (eu w g (oo+off) t ht hc),fun l=>hr,rfl,rfl⟩
  ·cases h
 ·rename_i n cs off ht he
  split at h
  ·rename_i hn
   injection h with h;injection h with h1 h2;subst h1;subst h2;obtain ⟨g,oo,hv,hrow⟩:=hR.um he;obtain ⟨vs,hl,hra,hre⟩:=hrow.part off n hn;refine ⟨_,.agg vs.toArray,hv,key (gY w g (oo+off) t ht hl hra),fun l=>⟨vs.toArray,rfl,by simp;omega,fun i hi hi'=> ?_⟩,xx _ _ _ _,rfl⟩;have hi2:i<n:=by simp at hi;omega
   refine ⟨by rw[List.getElem_map];rfl,?_⟩;have:=hre i hi2 (by omega);simp only[List.getElem_map,List.getElem_take,List.getElem_drop];exact this
  ·cases h
 ·rename_i n b off ht he
  split at h
  ·rename_i cells hb
   split at h
   ·rename_i y hy
    obtain ⟨hi,hyy⟩:=List.getElem?_eq_some_iff.1 hy;split at h
    ·rename_i heq;cases heq
    ·cases h
    ·rename_i hnm1 hnm2
     injection h with h;injection h with h1 h2;subst h1;subst h2;obtain ⟨v,hc,hr⟩:=(hR.heap.dk b cells hb).cell ((hR.heap.dk b cells hb).np hy (fun q es e=>by first|exact hnm1 q es e|exact hnm2 q es e)) off hi;rw[hyy] at hr;exact ⟨_,v,hR.jB he,key (eu w _ off t ht hc),fun l=>bx.aQ hr,aa.fE _ (hyy▸Fg hR.heap hb off hi),by show ad.c (aa.aQ _)=_;rw[aa.cG (aa.gb _)]⟩
   ·cases h
  ·cases h
 ·rename_i n b off ht he
  split at h
  ·rename_i cells hb
   split at h
   ·rename_i hn
    injection h with h;injection h with h1 h2;subst h1;subst h2;obtain ⟨hn,hkk⟩:=hn;obtain ⟨vs,hl,hra,hre⟩:=(hR.heap.dk b cells hb).part off n (.inr ((hR.heap.dk b cells hb).JE hkk)) hn;refine ⟨_,.agg vs.toArray,hR.jB he,key (gY w _ off t ht hl hra),fun l=>⟨vs.toArray,rfl,by simp;omega,fun i hi hi'=> ?_⟩,?_,rfl⟩
    ·have hi2:i<n:=by simp at hi;omega
     refine ⟨by rw[List.getElem_map];exact aa.gb _,?_⟩;have:=hre i hi2 (by omega);simp only[List.getElem_map,List.getElem_take,List.getElem_drop];exact bx.aQ this
    ·simp only[ad.ok,List.all_eq_true]
     intro y hy;obtain ⟨z,hz,rfl⟩:=List.mem_map.1 hy;exact aa.fE _ (hR.heap.ok b cells hb z (List.mem_of_mem_drop (List.mem_of_mem_take hz)))
   ·cases h
  ·cases h
 ·cases h
def DW (P:Program) (s:St):ResultVar->Option bj
 | .tmp t=>((s.ev (.tmp t)).aQ.t).map bj.nz
 | .cell x t=>match eb P false s t (.tmp x) with
  |some (y,_)=>y.t.map bj.nz
  |none=>none
def qx (P:Program) (s:St):List ResultVar->Option (List bj)
 |[]=>some []
 |x::r=>match DW P s x,qx P s r with
  |some y,some ys=>some (y::ys)
  |_,_=>none
def BE:List bj->ad
 |[x]=>x.a
 |l=> .cC l
theorem Rx {n:Nat} {x:ad} {y:bj} (h:x.ok n=true) (e:x.t=some y):y.ok n=true:=by
 cases x with
 |c x=>injection e with e;subst e;exact h
 |agg cs=>injection e with e;subst e;exact h
 |cC ts=>cases e
def MX (tmps:Array Value):ResultVar->Sem Value
 | .tmp t=>pure (tmps.getD t undef)
 | .cell a t=>do loadVar t (← asAddr (tmps.getD a undef))
theorem DX (fn:Func) (tmps:Array Value):results fn tmps=(fn.results.mapM (MX tmps)>>= fun vs=>pure (if h:vs.size=1 then vs[0] else .tuple vs)):=by
 unfold results;congr 1
theorem Ki {P:Program} {s:St} {a:Act} {w:World} {κ:Nat->BK} {ρ:Nat->Nat} (hR:Rel s a w κ ρ) (x:ResultVar) {y:bj} (h:DW P s x=some y):
  ∃ v,(MX a.tmps x).run P w= .ok v w/\(∀ l,dN w κ ρ l y v)/\y.ok s.H.length=true:=by
 cases x with
 |tmp t=>
  simp only[DW,Option.map_eq_some_iff] at h;obtain ⟨y0,h,rfl⟩:=h;exact ⟨a.tmps.getD t undef,rfl,fun l=>(ad.N3 (hR.ev (l:=l) (.tmp t)) h).nz,by rw[bj.BA];exact Rx (ad.fE _ (hR.jF (.tmp t))) h⟩
 |cell x t=>
  simp only[DW] at h;split at h
  ·rename_i z ch hz
   obtain ⟨p,v,h1,h2,h3,h4,h5⟩:=At hz hR;have h1':a.tmps.getD x undef= .pointer (some p):=h1;simp only[Option.map_eq_some_iff] at h;obtain ⟨y0,h,rfl⟩:=h;refine ⟨v,by simp[MX,h1',asAddr,h2],fun l=> ?_,by rw[bj.BA];exact Rx h4 h⟩;have:=h3 l;rw[← h5] at this h;exact (ad.N3 this h).nz
  ·cases h
theorem BZ {P:Program} {s:St} {a:Act} {w:World} {κ:Nat->BK} {ρ:Nat->Nat} (hR:Rel s a w κ ρ): ∀ (l:List ResultVar) (ys:List bj),qx P s l=some ys->
  ∃ vs:List Value,(l.mapM (MX a.tmps)).run P w= .ok vs w/\vs.length=ys.length/\(∀ i (h:i<ys.length) (h':i<vs.length) l,dN w κ ρ l ys[i] vs[i])/\ ∀ y∈ys,y.ok s.H.length=true
 |[],ys,h=>by injection h with h;subst h;exact ⟨[],by simp,rfl,fun i h=>by simp at h,fun y hy=>by cases hy⟩
 |x::r,ys,h=>by
  unfold qx at h;split at h
  ·rename_i y zs h1 h2
   injection h with h;subst h;obtain ⟨v,k1,k2,k3⟩:=Ki hR x h1;obtain ⟨vs,j1,j2,j3,j4⟩:=BZ hR r zs h2;refine ⟨v::vs,?_,by simp[j2],fun i hi hi' l=> ?_,fun z hz=> ?_⟩
   ·rw[List.mapM_cons]
    simp only[Sem.run_bind,Sem.run_pure];rw[k1];simp only[Result.andThen_ok];rw[j1];rfl
   ·cases i with
    |zero=>exact k2 l
    |succ i=>exact j3 i (by simpa using hi) (by simpa using hi') l
   ·rcases List.mem_cons.1 hz with rfl|hz
    ·exact k3
    ·exact j4 z hz
  ·cases h
theorem nB {P:Program} {fn:Func} {s:St} {a:Act} {w:World} {κ:Nat->BK} {ρ:Nat->Nat} (hR:Rel s a w κ ρ) {ys:List bj} (h:qx P s fn.results.toList=some ys):
  ∃ v vs,(results fn a.tmps).run P w= .ok v w/\v=(if h:vs.size=1 then vs[0] else .tuple vs)/\vs.size=ys.length/\(∀ i (h:i<ys.length) (h':i<vs.size) l,dN w κ ρ l ys[i] vs[i])/\ ∀ y∈ys,y.ok s.H.length=true:=by
 obtain ⟨vs,h1,h2,h3,h4⟩:=BZ hR _ _ h;refine ⟨_,vs.toArray,?_,rfl,by simpa using h2,fun i hi hi' l=>by simpa using h3 i hi (by simpa using hi') l,h4⟩;rw[DX,Array.mapM_eq_mapM_toList];simp only[Sem.run_bind,Sem.run_map,h1,Result.andThen_ok,Sem.run_pure]
theorem vq {w:World} {κ:Nat->BK} {ρ:Nat->Nat} {ys:List bj} {vs:Array Value} (h1:vs.size=ys.length) (h2: ∀ i (h:i<ys.length) (h':i<vs.size) l,dN w κ ρ l ys[i] vs[i]) (l:Loc):bM w κ ρ l (BE ys) (if h:vs.size=1 then vs[0] else .tuple vs):=by
 unfold BE;split
 ·rename_i y
  have hs:vs.size=1:=by simpa using h1
  rw[dif_pos hs];exact (h2 0 (by simp) (by omega) l).a
 ·rename_i hne
  have hs: ¬ vs.size=1:=fun hs=>by
   rw[h1] at hs
   match ys,hs with
   |[y],_=>exact hne y rfl
  rw[dif_neg hs];exact ⟨vs,rfl,h1,fun i hi hi'=>h2 i hi hi' l⟩
def entry (fn:Func) (args:List ad) (H:List (Option (List aa))):St:=⟨fun i=>args.getD i (if i<fn.ntmps then .c .und else .c .any),H⟩
def Tk:bj->Bool
 | .c x=>x.flat
 | .agg _=>true
def Flat:ad->Bool
 | .c x=>x.flat
 |_=>true
theorem cG {x:ad} (h:Flat x=true):x.aQ=x:=by
 cases x with
 |c x=>show ad.c (aa.aQ _)=_;rw[aa.cG h]
 |agg cs=>rfl
 |cC ts=>rfl
def Nx (P:Program) (fn:Func) (r:ad) (H':List (Option (List aa))) (e:bI) (s:St):Prop:=
 (match e with| .exit _=>False|_=>True)/\ ∃ ys,qx P s fn.results.toList=some ys/\BE ys=r/\s.H.take H'.length=H'
theorem q8 {fn:Func} {args:List ad} {H:List (Option (List aa))} {w:World} {κ:Nat->BK} {ρ:Nat->Nat} {vals:Array Value} (hn:args.length<=fn.ntmps) (hs:vals.size=args.length) (hr: ∀ i (h:i<args.length) (h':i<vals.size) l,bM w κ ρ l args[i] vals[i]) (hok: ∀ x∈args,x.ok H.length=true) (hH:we H w κ ρ):
  Rel (entry fn args H) { tmps:=vals++Array.replicate (fn.ntmps-vals.size) undef,defers:=[] } w κ ρ:=by
 have hsz:(vals++Array.replicate (fn.ntmps-vals.size) undef).size=fn.ntmps:=by simp;omega
 refine ⟨rfl,fun i hi'=> ?_,fun i hi=> ?_,fun i=> ?_,hH⟩
 ·have hi2:i<fn.ntmps:=by rw[← hsz];exact hi'
  simp only[entry];rcases Nat.lt_or_ge i args.length with hlt|hge
  ·rw[List.getD_eq_getElem?_getD,List.getElem?_eq_getElem hlt,Array.getElem_append_left (by omega)]
   exact hr i hlt (by omega) _
  ·rw[List.getD_eq_getElem?_getD,List.getElem?_eq_none hge,Array.getElem_append_right (by omega),if_pos hi2]
   simp only[Array.getElem_replicate];rfl
 ·have hi2:fn.ntmps<=i:=by rw[← hsz];exact hi
  simp only[entry];rw[List.getD_eq_getElem?_getD,List.getElem?_eq_none (by omega),if_neg (by omega)];rfl
 ·simp only[entry]
  rcases Nat.lt_or_ge i args.length with hlt|hge
  ·rw[List.getD_eq_getElem?_getD,List.getElem?_eq_getElem hlt]
   exact hok _ (List.getElem_mem hlt)
  ·rw[List.getD_eq_getElem?_getD,List.getElem?_eq_none hge]
   simp only[Option.getD_none];split<;>rfl
theorem oR {fn:Func} {args:List ad} {vals:Array Value} (hn:args.length<=fn.ntmps) (hs:vals.size=args.length):(vals++Array.replicate (fn.ntmps-vals.size) undef).size=fn.ntmps:=by simp;omega
theorem MK {P:Program} {D:Array Oper->St->(St->Prop)->Prop} (hD:oH P D) {f:FuncId} {fn:Func} {c:Code} {args:List ad} {H H':List (Option (List aa))} {r:ad} (hf:P.funcs[f]? =some fn) (hb:fn.body=some c) (hn:(fn.name== "runtime.NumGoroutine")=false) (hca:args.length<=fn.ntmps) (hcode:codeOk fn.ntmps c=true)
  (hflat:Flat r=true) (hrok:r.ok H'.length=true) (hlen:H.length<=H'.length) (hHok:H'.all (okB H'.length)=true) {s0:St} (hs0:di H.length (entry fn args H) s0) (h:W P D H.length c s0 (Nx P fn r H')):Ok P f args H r H':=by
 refine ⟨⟨fn,hf,by rw[hb];rfl,hn⟩,cG hflat,hrok,hlen,fun w κ ρ vals hs hr hok hH=> ?_⟩;obtain ⟨κ2,hR2,hF2⟩:=hs0.2 _ _ _ _ (q8 hca hs hr hok hH);refine calls_of_wp hf hb (wp_mono (gI (N:=fn.ntmps) hD c _ _ _ w κ2 ρ hcode h ⟨hR2,hF2,fun _ _=>rfl,hs0.1,oR hca hs⟩) fun e a' w' hq=> ?_);have key: ∀ {ex:bI} {s:St} {κ':Nat->BK} {ρ':Nat->Nat},Nx P fn r H' ex s->In fn.ntmps H.length w κ ρ s a' w' κ' ρ'->a'.defers=[]/\ ∃ v,(results fn a'.tmps).run P w'= .ok v w'/\ ∃ v' κ'' ρ'',Ending.returned v= .returned v'/\(∀ l,bM w' κ'' ρ'' l r v')/\we H' w' κ'' ρ''/\Fr w κ w' κ''/\ ∀ b,b<H.length->ρ'' b=ρ b:=by
  rintro ex s κ' ρ' ⟨_,ys,h1,h2,h3⟩ hI;obtain ⟨v,vs,k1,k2,k3,k4,k5⟩:=nB hI.rel h1;refine ⟨hI.rel.defers,v,k1,v,κ',ρ',rfl,fun l=> ?_,⟨fun b cs hb'=> ?_,fun b cs hb' x hx=> ?_⟩,hI.fr,hI.rho⟩
  ·rw[k2,← h2];exact vq k3 k4 l
  ·rw[← h3,List.getElem?_take] at hb'
   split at hb'
   ·exact hI.rel.heap.dk b cs hb'
   ·cases hb'
  ·have:=List.all_eq_true.1 hHok (some cs) (List.mem_of_getElem? hb')
   exact List.all_eq_true.1 this x hx
 cases e with
 |normal=>obtain ⟨s,κ',ρ',hk,hI⟩:=hq;exact key hk hI
 |ret=>obtain ⟨s,κ',ρ',hk,hI⟩:=hq;exact key hk hI
 |exit id=>obtain ⟨s,κ',ρ',hk,hI⟩:=hq;exact hk.1.elim
 |goto l=>exact hq
 |panic ch=>exact False.elim hq
 |outgrown=>exact False.elim hq
def Ib (H:List (Option (List aa))):aa->aa
 | .arr b off len cap=>match H[b]? with
  |some (some cells)=>if len=cap then
   match jX (cells.drop off) with
   |some fs=> .f (.row fs len)
   |none=> .any
   else .any
  |_=> .any
 |x=>x
def Sp (H:List (Option (List aa))):bj->bj
 | .c x=> .c (Ib H x)
 | .agg cs=> .agg (cs.map (Ib H))
def CJ (P:Program) (fn:Func) (r:ad) (e:bI) (s:St):Prop:=
 (match e with| .exit _=>False|_=>True)/\ ∃ ys,qx P s fn.results.toList=some ys/\BE (ys.map (Sp s.H))=r
def iB (κ:Nat->BK) (g:Nat):BK:=
 match κ g with
 | .wr _=> .lock none
 |k=>k
theorem A5 {H:List (Option (List aa))} {x:aa} (h:x.flat=true):(Ib H x).flat=true:=by
 unfold Ib;split
 ·split
  ·split
   ·split<;>rfl
   ·rfl
  ·rfl
 ·exact h
theorem E9 {s:St} {a:Act} {w:World} {κ:Nat->BK} {ρ:Nat->Nat} (hR:Rel s a w κ ρ) {l:Loc} {x:aa} {v:Value} (hx:x.flat=true) (hok:x.ok s.H.length=true) (h:bx w κ ρ l x v):bx w (iB κ) ρ l (Ib s.H x) v:=by
 have hg:fu w κ w (iB κ):=dQ fun g n hf=>by
  unfold iB;split
  ·trivial
  ·exact hf
 have eC:bx w (iB κ) ρ l x v:=bx.eC (n:=s.H.length) hg (fun _ _=>rfl) hok (fun _ _ _ _ e=>by rw[e] at hx;cases hx) h;unfold Ib;split
 ·rename_i b off len cap
  split
  ·rename_i cells hb
   split
   ·rename_i hlc
    split
    ·rename_i fs hfs
     have hB:=hR.heap.dk b cells hb;obtain ⟨f1,f2⟩:=iC _ fs hfs;have hv:v= .slice (some ⟨ρ b,off,none⟩) len cap:=h;rw[hv];refine iy ⟨ρ b,off,cap,rfl,by omega,⟨fun i hi=> ?_,fun hne=>⟨?_,?_⟩⟩⟩
     ·have hi2:off+i<cells.length:=by rw[f1,List.length_drop] at hi;omega
      have hf2:=f2 i (by rw[← f1];exact hi) hi;rw[List.getElem_drop] at hf2
      obtain ⟨u,hu1,hu2⟩:=hB.cell (hB.np (List.getElem?_eq_getElem hi2) fun q es e=>by rw[e] at hf2;cases hf2) (off+i) hi2;exact ⟨u,hu1,(aa.nf hu2 hf2).grow hg⟩
     ·exact hB.tv
     ·unfold iB;rw[hB.own];trivial
    ·trivial
   ·trivial
  ·trivial
 ·exact eC
theorem Mh {s:St} {a:Act} {w:World} {κ:Nat->BK} {ρ:Nat->Nat} (hR:Rel s a w κ ρ) {l:Loc} {x:bj} {v:Value} (hok:x.ok s.H.length=true) (h:dN w κ ρ l x v):dN w (iB κ) ρ l (Sp s.H x) v:=by
 cases x with
 |c x=>exact ⟨A5 h.1,E9 hR h.1 hok h.2⟩
 |agg cs=>
  obtain ⟨vs,rfl,hs,hr⟩:=h;refine ⟨vs,rfl,by simpa using hs,fun i hi hi'=> ?_⟩;have hi2:i<cs.length:=by simpa using hi
  rw[List.getElem_map];exact ⟨A5 (hr i hi2 hi').1,E9 hR (hr i hi2 hi').1 (List.all_eq_true.1 hok _ (List.getElem_mem hi2)) (hr i hi2 hi').2⟩
theorem JZ {P:Program} {D:Array Oper->St->(St->Prop)->Prop} (hD:oH P D) {f:FuncId} {fn:Func} {c:Code} {args:List ad} {r:ad} (hf:P.funcs[f]? =some fn) (hb:fn.body=some c) (hn:(fn.name== "runtime.NumGoroutine")=false) (hca:args.length<=fn.ntmps) (hcode:codeOk fn.ntmps c=true)
  (hflat:Flat r=true) (hrok:r.ok 0=true) {s0:St} (hs0:di 0 (entry fn args []) s0) (h:W P D 0 c s0 (CJ P fn r)):Ok P f args [] r []:=by
 refine ⟨⟨fn,hf,by rw[hb];rfl,hn⟩,cG hflat,hrok,Nat.le_refl _,fun w κ ρ vals hs hr hok hH=> ?_⟩;obtain ⟨κ2,hR2,hF2⟩:=hs0.2 _ _ _ _ (q8 hca hs hr hok hH);refine calls_of_wp hf hb (wp_mono (gI (N:=fn.ntmps) hD c _ _ _ w κ2 ρ hcode h ⟨hR2,hF2,fun _ _=>rfl,hs0.1,oR hca hs⟩) fun e a' w' hq=> ?_);have key: ∀ {ex:bI} {s:St} {κ':Nat->BK} {ρ':Nat->Nat},CJ P fn r ex s->In fn.ntmps 0 w κ ρ s a' w' κ' ρ'->a'.defers=[]/\ ∃ v,(results fn a'.tmps).run P w'= .ok v w'/\ ∃ v' κ'' ρ'',Ending.returned v= .returned v'/\(∀ l,bM w' κ'' ρ'' l r v')/\we [] w' κ'' ρ''/\Fr w κ w' κ''/\ ∀ b,b<0->ρ'' b=ρ b:=by
  rintro ex s κ' ρ' ⟨_,ys,h1,h2⟩ hI;obtain ⟨v,vs,k1,k2,k3,k4,k5⟩:=nB hI.rel h1;have hg:fu w' κ' w' (iB κ'):=dQ fun g n hf=>by
   unfold iB;split
   ·trivial
   ·exact hf
  refine ⟨hI.rel.defers,v,k1,v,iB κ',ρ',rfl,fun l=> ?_,⟨fun b cs h=>by simp at h,fun b cs h=>by simp at h⟩,hI.fr.trans ⟨rfl,rfl,rfl,Nat.le_refl _,fun g n _ hl=>⟨by unfold iB;rw[hl],rfl⟩,hg⟩,fun b hb=>by omega⟩;rw[k2,← h2];refine vq (by simpa using k3) (fun i hi hi' l=> ?_) l;have hi2:i<ys.length:=by simpa using hi
  rw[List.getElem_map];exact Mh hI.rel (k5 _ (List.getElem_mem hi2)) (k4 i hi2 hi' l)
 cases e with
 |normal=>obtain ⟨s,κ',ρ',hk,hI⟩:=hq;exact key hk hI
 |ret=>obtain ⟨s,κ',ρ',hk,hI⟩:=hq;exact key hk hI
 |exit id=>obtain ⟨s,κ',ρ',hk,hI⟩:=hq;exact hk.1.elim
 |goto l=>exact hq
 |panic ch=>exact False.elim hq
 |outgrown=>exact False.elim hq
inductive aa.Le:aa->aa->Prop
 |refl (x:aa):Le x x
 |any (x:aa) (h:gE [x]=true):Le x .any
 |iE:Le (.f .nils) (.f (.row [] 0))
 |gl (q:Bool) (sz:Nat):Le (.f .nils) (.bg q sz [] 0)
 |g9 (sz:Nat) (cs:List ag) (len:Nat):Le (.bg true sz cs len) (.f (.row cs len))
 |jj (sz:Nat) (cs:List ag) (len:Nat):Le (.bg false sz cs len) (.f (.row [] len))
theorem aa.Le.Hh {x y:aa} (h:aa.Le x y) {w:World} {κ:Nat->BK} {ρ:Nat->Nat} {l:Loc} {v:Value} (hx:bx w κ ρ l x v):bx w κ ρ l y v:=by
 cases h with
 |refl=>exact hx
 |any=>trivial
 |iE=>exact bx.nz (x:= .f .nils) hx
 |gl q sz=>exact .inr ⟨rfl,rfl,dR.1 hx⟩
 |g9 sz cs len=>exact bx.aQ (x:= .bg true sz cs len) hx
 |jj sz cs len=>exact bx.aQ (x:= .bg false sz cs len) hx
theorem aa.Le.ok {x y:aa} (h:aa.Le x y) {n:Nat} (hx:x.ok n=true):y.ok n=true:=by
 cases h with
 |refl=>exact hx
 |_=>rfl
inductive sQ:List aa->List aa->Prop
 |nil:sQ [] []
 |cons {x y:aa} {l m:List aa} (h:aa.Le x y) (t:sQ l m):sQ (x::l) (y::m)
theorem sQ.refl: ∀ l,sQ l l
 |[]=> .nil
 |x::l=> .cons (.refl x) (sQ.refl l)
theorem sQ.get: ∀ {l m:List aa},sQ l m->l.length=m.length/\ ∀ i (h:i<l.length) (h':i<m.length),aa.Le l[i] m[i]
 |_,_,.nil=>⟨rfl,fun i h=>by simp at h⟩
 |_,_,.cons h t=>⟨by simp[(sQ.get t).1],fun i hi hi'=>by
  cases i with
  |zero=>exact h
  |succ i=>exact (sQ.get t).2 i (by simpa using hi) (by simpa using hi')⟩
inductive v7:List (Option (List aa))->List (Option (List aa))->Prop
 |nil:v7 [] []
 |none {x:Option (List aa)} {l m:List (Option (List aa))} (t:v7 l m):v7 (x::l) (Option.none::m)
 |some {x y:List aa} {l m:List (Option (List aa))} (h:sQ x y) (t:v7 l m):v7 (Option.some x::l) (Option.some y::m)
theorem v7.refl: ∀ l,v7 l l
 |[]=> .nil
 |Option.none::l=> .none (v7.refl l)
 |Option.some x::l=> .some (sQ.refl x) (v7.refl l)
theorem v7.get: ∀ {l m:List (Option (List aa))},v7 l m->l.length=m.length/\ ∀ (b:Nat) (cs:List aa),m[b]? =Option.some (Option.some cs)-> ∃ ds,l[b]? =Option.some (Option.some ds)/\sQ ds cs
 |_,_,.nil=>⟨rfl,fun b cs h=>by simp at h⟩
 |_,_,.none t=>⟨by simp[(v7.get t).1],fun b cs h=>by
  cases b with
  |zero=>simp at h
  |succ b=>exact (v7.get t).2 b cs (by simpa using h)⟩
 |_,_,.some hh t=>⟨by simp[(v7.get t).1],fun b cs h=>by
  cases b with
  |zero=>simp at h;subst h;exact ⟨_,rfl,hh⟩
  |succ b=>exact (v7.get t).2 b cs (by simpa using h)⟩
inductive ad.Le:ad->ad->Prop
 |refl (x:ad):Le x x
 |any (x:ad):Le x (.c .any)
 |c {x y:aa} (h:aa.Le x y):Le (.c x) (.c y)
theorem ad.Le.Hh {x y:ad} (h:ad.Le x y) {w:World} {κ:Nat->BK} {ρ:Nat->Nat} {l:Loc} {v:Value} (hx:bM w κ ρ l x v):bM w κ ρ l y v:=by
 cases h with
 |refl=>exact hx
 |any=>trivial
 |c h=>exact aa.Le.Hh h hx
theorem ad.Le.ok {x y:ad} (h:ad.Le x y) {n:Nat} (hx:x.ok n=true):y.ok n=true:=by
 cases h with
 |refl=>exact hx
 |any=>rfl
 |c h=>exact aa.Le.ok h hx
theorem F4 {n0:Nat} {s s2:St} (h0:n0<=s.H.length) (hH:v7 s.H s2.H) (h: ∀ i,ad.Le (s.sl i) (s2.sl i)) (ho: ∀ i,s.sl i= .c .any->s2.sl i= .c .any):di n0 s s2:=by
 obtain ⟨hl,hg⟩:=hH.get;refine .i (by rw[← hl];exact h0) fun a w κ ρ hR=>⟨hR.defers,fun i hi'=>(h i).Hh (hR.slot i hi'),fun i hi=>ho i (hR.out i hi),fun i=>by rw[← hl];exact (h i).ok (hR.ok i),⟨fun b cs hb=> ?_,fun b cs hb x hx=> ?_⟩⟩
 ·obtain ⟨ds,h1,h2⟩:=hg b cs hb
  obtain ⟨k1,k2⟩:=h2.get;have hB:=hR.heap.dk b ds h1;rcases hB.obj with ⟨c,e,b1,b2,b3⟩|⟨q,es,en,ck,rfl,hM⟩
  ·exact ⟨hB.own,.inl ⟨c,e,b1,by omega,fun i hi hi'=>(k2 i (by omega) hi).Hh (b3 i (by omega) hi')⟩⟩
  ·refine ⟨hB.own,.inr ?_⟩
   match cs,k1 with
   |[y],_=>
    have h2:aa.Le (.mp q es) y:=k2 0 (by simp) (by simp);have e1:y= .mp q es:=by
     cases h2 with
     |refl=>rfl
     |any _ h=>cases h
    rw[e1];exact ⟨q,es,en,ck,rfl,hM⟩
 ·obtain ⟨ds,h1,h2⟩:=hg b cs hb
  obtain ⟨k1,k2⟩:=h2.get;obtain ⟨i,hi,rfl⟩:=List.mem_iff_getElem.1 hx;rw[← hl];exact (k2 i (by omega) hi).ok (hR.heap.ok b ds h1 _ (List.getElem_mem (by omega)))
section
variable {P:Program} {ops:Array Oper} {tr:Bool} {s s':St} {o:Oper}
theorem mg: ∀ (ps:List (Nat×Operand)),(∀ x∈ps.map (·.2),s.ev x=s'.ev x)->fh s ps=fh s' ps
 |[],_=>rfl
 |(i,x)::rest,h=>by
  have h1:=h x (by simp);have h2:=mg rest fun y hy=>h y (by simp at hy⊢;exact .inr hy)
  simp only[fh,h1,h2]
theorem pH (h: ∀ x∈o.op.operands,s.ev x=s'.ev x):cv P s o=cv P s' o:=by
 unfold cv;have h1:(o.op.operands.toList.all fun x=>(s.ev x).gp.isSome)=o.op.operands.toList.all fun x=>(s'.ev x).gp.isSome:=by
  rw[Bool.eq_iff_iff,List.all_eq_true,List.all_eq_true];constructor
  ·intro k x hx;have:=k x hx;rwa [h x (by simpa using hx)] at this
  ·intro k x hx;have:=k x hx;rwa [← h x (by simpa using hx)] at this
 rw[h1];by_cases hs:Bi o.op=true
 ·simp[hs]
 ·rw[execOp_congr (ρ:=s.env) (ρ':=s'.env) o (fun cs b e=>hs (by rw[e];rfl)) (fun x hx=>by unfold St.env;rw[h x hx])]
theorem sm {x:Operand} (h:s.ev x=s'.ev x):holds s x=holds s' x:=by
 unfold holds;cases x with
 |tmp t=>simp only[h]
 |_=>rfl
theorem qX {x:Option Operand} {d:Int} (h: ∀ y,x=some y->s.ev y=s'.ev y):gj s x d=gj s' x d:=by
 cases x with
 |none=>rfl
 |some y=>simp only[gj,h y rfl]
def blind:Op->Bool
 | .load .. =>false
 | .call _=>false
 | .store .. =>false
 | .alloc _=>false
 | .box .. =>false
 | .makeSlice .. =>false
 |_=>true
theorem Gk (hb:blind o.op=true) (h: ∀ x∈o.op.operands,s.ev x=s'.ev x):j6 P tr s o=j6 P tr s' o:=by
 have hp:cv P s o=cv P s' o:=pH h;obtain ⟨dst,op,type,pos,after,guard⟩:=o;cases op<;>simp only[blind] at hb<;>first|cases hb|skip
 all_goals simp only[Op.operands] at h
 case move x=>
  simp only[j6,fC,h x (by simp)]
 case assign x=>
  simp only[j6,fC,h x (by simp)]
 case pick c x y=>
  simp only[j6,rT,h c (by simp),h x (by simp),h y (by simp)]
 case fieldAddr t x f=>
  simp only[j6,dX,h x (by simp)]
 case indexAddr t x i=>
  simp only[j6,dA,h x (by simp),h i (by simp)]
 case nilCheck x=>
  simp only[j6,wg,h x (by simp)]
 case extract x i=>
  simp only[j6,iJ,h x (by simp)]
 case field t x f=>
  simp only[j6,mS,h x (by simp)]
 case index t x i=>
  simp only[j6,lO,h x (by simp),h i (by simp),hp]
 case build t ps=>
  simp only[j6,mR,mg ps.toList (s:=s) (s':=s') (fun x hx=>h x (by simpa using hx))]
 case buildSlice t n ps=>
  simp only[j6,eF,mg ps.toList (s:=s) (s':=s') (fun x hx=>h x (by simpa using hx))]
 case slice t x lo hi mx=>
  have h1: ∀ d,gj s lo d=gj s' lo d:=fun d=>qX fun y e=>h y (by simp[e])
  have h2: ∀ d,gj s hi d=gj s' hi d:=fun d=>qX fun y e=>h y (by simp[e])
  have h3: ∀ d,gj s mx d=gj s' mx d:=fun d=>qX fun y e=>h y (by simp[e])
  simp only[j6,dK,h x (by simp),h1,h2,h3,hp]
 case convert t u x=>
  simp only[j6,fA,h x (by simp),hp]
 all_goals exact hp
def makes:Op->Bool
 | .alloc _=>true
 | .box .. =>true
 | .makeSlice .. =>true
 |_=>false
def aa.see:aa->aa
 | .mp q es=> .mp q es
 |x=>x.aQ
theorem aa.FJ {x y:aa} (h:x.see=y.see):x.aQ=y.aQ:=by
 cases x<;>cases y<;>first|exact h|rfl|cases h|(rename_i q _ _ _ _ _;cases q<;>cases h)|(rename_i q _ _ _;cases q<;>cases h)
theorem Kp {l m:List aa} (h:l.map aa.see=m.map aa.see):gE l=gE m:=by
 cases l with
 |nil=>cases m with
  |nil=>rfl
  |cons=>cases h
 |cons x l=>cases m with
  |nil=>cases h
  |cons y m=>
   rw[List.map_cons,List.map_cons] at h;injection h with h;cases x<;>cases y<;>first|rfl|cases h|(rename_i q _ _ _ _ _;cases q<;>cases h)|(rename_i q _ _ _;cases q<;>cases h)
theorem M6 {l m:List aa} (h:l.map aa.see=m.map aa.see):l.map aa.aQ=m.map aa.aQ:=by
 induction l generalizing m with
 |nil=>cases m with
  |nil=>rfl
  |cons=>cases h
 |cons x l ih=>cases m with
  |nil=>cases h
  |cons y m=>
   rw[List.map_cons,List.map_cons] at h;injection h with h1 h2;rw[List.map_cons,List.map_cons,aa.FJ h1,ih h2]
def fH (H:List (Option (List aa))) (b:Nat):Option (Option (List aa)):=(H[b]?).map (Option.map (List.map aa.see))
theorem Gx {H H':List (Option (List aa))} {b:Nat} (h:fH H b=fH H' b):(∃ cs ds,H[b]? =some (some cs)/\H'[b]? =some (some ds)/\cs.map aa.see=ds.map aa.see)\/((∀ cs,H[b]? ≠some (some cs))/\ ∀ cs,H'[b]? ≠some (some cs)):=by
 unfold fH at h;cases h1:H[b]? with
 |none=>cases h2:H'[b]? with
  |none=>exact .inr ⟨fun _ e=>(by cases e),fun _ e=>(by cases e)⟩
  |some y=>rw[h1,h2] at h;cases h
 |some x=>cases h2:H'[b]? with
  |none=>rw[h1,h2] at h;cases h
  |some y=>
   rw[h1,h2] at h;cases x with
   |none=>cases y with
    |none=>exact .inr ⟨fun _ e=>(by cases e),fun _ e=>(by cases e)⟩
    |some ds=>cases h
   |some cs=>cases y with
    |none=>cases h
    |some ds=>exact .inl ⟨cs,ds,rfl,rfl,by simpa using h⟩
theorem CW {t:TypeId} {x:Operand} (hx:s.ev x=s'.ev x) (hf: ∀ b∈nx (s.ev x),fH s.H b=fH s'.H b):eb P false s t x=eb P false s' t x:=by
 unfold eb;rw[← hx];cases hv:s.ev x with
 |c v=>
  cases v with
  |ptr b off=>
   have e:=hf b (by rw[hv];simp[nx]);cases oe P t with
   |none=>rfl
   |some q=>
    obtain ⟨q1,q2⟩:=q;rcases Gx e with ⟨cs,ds,e1,e2,e3⟩|⟨e1,e2⟩
    ·have hl:cs.length=ds.length:=by simpa using congrArg List.length e3
     cases q1
     ·dsimp only
      rw[e1,e2];dsimp only;have e4:(cs[off]?).map aa.see=(ds[off]?).map aa.see:=by rw[← List.getElem?_map,← List.getElem?_map,e3]
      cases h1:cs[off]? with
      |none=>cases h2:ds[off]? with
       |none=>rfl
       |some z=>rw[h1,h2] at e4;cases e4
      |some y=>cases h2:ds[off]? with
       |none=>rw[h1,h2] at e4;cases e4
       |some z=>
        rw[h1,h2] at e4;have e5:y.see=z.see:=by simpa using e4
        have e6:=aa.FJ e5;cases y<;>cases z<;>first|rfl|(cases e5;done)|(simp only[e6];done)|(rename_i q _ _ _ _ _;cases q<;>cases e5)|(rename_i q _ _ _;cases q<;>cases e5)
     ·dsimp only
      rw[e1,e2];dsimp only;rw[hl,Kp e3];replace e3:=M6 e3;have e4:((cs.drop off).take q2).map aa.aQ=((ds.drop off).take q2).map aa.aQ:=by rw[List.map_take,List.map_take,List.map_drop,List.map_drop,e3]
      rw[e4]
    ·have n1: ∀ {α:Type} (f:List aa->α) (g:α),(match s.H[b]? with|some (some cells)=>f cells|_=>g)=g:=fun f g=>by
      cases h1:s.H[b]? with
      |none=>rfl
      |some z=>cases z with
       |none=>rfl
       |some cs=>exact absurd h1 (e1 cs)
     have n2: ∀ {α:Type} (f:List aa->α) (g:α),(match s'.H[b]? with|some (some cells)=>f cells|_=>g)=g:=fun f g=>by
      cases h1:s'.H[b]? with
      |none=>rfl
      |some z=>cases z with
       |none=>rfl
       |some cs=>exact absurd h1 (e2 cs)
     cases q1
     ·exact (n1 _ _).trans (n2 _ _).symm
     ·exact (n1 _ _).trans (n2 _ _).symm
  |f y=>cases oe P t with
   |none=>rfl
   |some q=>obtain ⟨q1,q2⟩:=q;cases q1<;>cases y<;>rfl
  |_=>cases oe P t with
   |none=>rfl
   |some q=>obtain ⟨q1,q2⟩:=q;cases q1<;>rfl
 |_=>cases oe P t with
  |none=>rfl
  |some q=>obtain ⟨q1,q2⟩:=q;cases q1<;>rfl
theorem LL (h: ∀ x∈o.op.operands,s.ev x=s'.ev x) (hf: ∀ b∈kW tr s o,s.H[b]? =s'.H[b]?) (hfr: ∀ b∈s6 tr s o,fH s.H b=fH s'.H b) (hl:makes o.op=true->s.H.length=s'.H.length):j6 P tr s o=j6 P tr s' o:=by
 by_cases hb:blind o.op=true
 ·exact Gk hb h
 have hp:cv P s o=cv P s' o:=pH h;obtain ⟨dst,op,type,pos,after,guard⟩:=o;cases op<;>simp only[blind] at hb<;>first|exact absurd rfl hb|exact absurd trivial hb|skip
 all_goals simp only[Op.operands] at h
 case alloc t=>simp only[j6,lN,hl rfl]
 case box t x=>simp only[j6,yv,hl rfl,h x (by simp)]
 case load t x=>
  simp only[kW] at hf;simp only[s6] at hfr;have hx:=h x (by simp);simp only[j6];cases tr with
  |false=>
   simp only[Bool.false_eq_true,if_false] at hfr;exact CW hx hfr
  |true=>
   simp only[if_true] at hf;simp only[eb,← hx];cases hv:s.ev x with
   |c v=>
    cases v with
    |ptr b off=>
     have e:=hf b (by rw[hv];simp[nx]);cases oe P t with
     |none=>rfl
     |some q=>obtain ⟨q1,q2⟩:=q;cases q1<;>simp only[e]
    |f y=>cases oe P t with
     |none=>rfl
     |some q=>obtain ⟨q1,q2⟩:=q;cases q1<;>cases y<;>rfl
    |_=>cases oe P t with
     |none=>rfl
     |some q=>obtain ⟨q1,q2⟩:=q;cases q1<;>rfl
   |_=>cases oe P t with
    |none=>rfl
    |some q=>obtain ⟨q1,q2⟩:=q;cases q1<;>rfl
 case store t x y=>
  simp only[kW] at hf;have hx:=h x (by simp);have hy:=h y (by simp);simp only[j6,km,← hx,← hy,← sm hy];cases hv:s.ev x with
  |c v=>
   cases v with
   |ptr b off=>
    have e:=hf b (by rw[hv];simp[nx]);cases oe P t with
    |none=>rfl
    |some q=>obtain ⟨q1,q2⟩:=q;simp only[e]
   |_=>cases oe P t<;>rfl
  |_=>cases oe P t<;>rfl
 case makeSlice t l c=>simp only[j6,pG,hl rfl,h l (by simp),h c (by simp)]
 case call c=>
  simp only[kW] at hf;simp only[j6];unfold wN;split
  ·rename_i x t h1 h2 h3
   have hx:x∈c.args:=by rw[← Array.mem_toList_iff,h2];simp
   simp only[oM,h x (by simp[Call.operands,hx]),hp]
  ·rename_i x y t tx h1 h2 h3
   have hx:x∈c.args:=by rw[← Array.mem_toList_iff,h2];simp
   have hy:y∈c.args:=by rw[← Array.mem_toList_iff,h2];simp
   have hx':=h x (by simp[Call.operands,hx]);have hy':=h y (by simp[Call.operands,hy]);rw[h2] at hf
   have hsrc: ∀ sz,bo P s sz tx y=bo P s' sz tx y:=by
    intro sz;unfold bo;rw[← hy'];cases hv:(s.ev y).aQ with
    |c v=>
     cases v with
     |arr b off n cap=>
      have e:=hf b (by show b∈gK (s.ev x).aQ++gK (s.ev y).aQ;rw[hv];simp[gK]);simp only[e]
     |f q=>cases q<;>rfl
     |_=>rfl
    |_=>rfl
   have e1:fl P s t tx x y=fl P s' t tx x y:=by simp only[fl,hsrc,← hx',sm hx']
   have e2:mT P s t tx x y=mT P s' t tx x y:=by
    unfold mT;rw[← hx'];cases bl P t with
    |none=>rfl
    |some z=>
     cases hv:(s.ev x).aQ with
     |c v=>
      cases v with
      |arr b off n cap=>
       have e:=hf b (by show b∈gK (s.ev x).aQ++gK (s.ev y).aQ;rw[hv];simp[gK]);dsimp only;rw[hsrc z,e]
      |_=>rfl
     |_=>rfl
   show qS P s t tx x y=qS P s' t tx x y;unfold qS;rw[e1,e2]
  ·rename_i x y t tx h1 h2 h3
   have hx:x∈c.args:=by rw[← Array.mem_toList_iff,h2];simp
   have hy:y∈c.args:=by rw[← Array.mem_toList_iff,h2];simp
   have hx':=h x (by simp[Call.operands,hx]);have hy':=h y (by simp[Call.operands,hy]);rw[h2] at hf
   have hsrc: ∀ sz,bo P s sz tx y=bo P s' sz tx y:=by
    intro sz;unfold bo;rw[← hy'];cases hv:(s.ev y).aQ with
    |c v=>
     cases v with
     |arr b off n cap=>
      have e:=hf b (by show b∈gK (s.ev x).aQ++gK (s.ev y).aQ;rw[hv];simp[gK]);simp only[e]
     |f q=>cases q<;>rfl
     |_=>rfl
    |_=>rfl
   show oz P s t tx x y=oz P s' t tx x y;unfold oz;rw[← hx'];cases bl P t with
   |none=>rfl
   |some z=>
    cases hv:(s.ev x).aQ with
    |c v=>
     cases v with
     |arr b off n cap=>
      have e:=hf b (by show b∈gK (s.ev x).aQ++gK (s.ev y).aQ;rw[hv];simp[gK]);dsimp only;rw[hsrc z,e]
     |_=>rfl
    |_=>rfl
  ·exact hp
theorem yB {x:ad} {c:eJ} {b:Nat} {cs:List aa} (h:j6 P tr s o=some (x,c)) (hb:c.dk=some (b,cs)):b∈kW tr s o/\b<s.H.length/\c.new=none/\(rj o.op=true->fH (s.H.set b (some cs)) b=fH s.H b):=by
 have no: ∀ {y:ad} {c':eJ},c'.dk=none->some (y,c')=some (x,c)->False:=fun {y c'} hn e=>by
  injection e with e;injection e with _ e;subst e;rw[hn] at hb;cases hb
 have plain: ∀ {o:Oper},cv P s o=some (x,c)->False:=fun {o} h=>by
  unfold cv at h;split at h
  ·split at h
   ·exact no rfl h
   ·cases h
  ·cases h
 have mv: ∀ {t:Bool} {y:Operand},some (fC t s y)=some (x,c)->False:=fun {t y} h=>by
  unfold fC at h;split at h
  ·exact no rfl h
  ·exact no rfl h
 have lt: ∀ {b:Nat} {cells:List aa},s.H[b]? =some (some cells)->b<s.H.length:=fun {b cells} e=>(List.getElem?_eq_some_iff.1 e).1
 obtain ⟨dst,op,type,pos,after,guard⟩:=o;cases op<;>simp only[j6] at h
 case move y=>exact (mv h).elim
 case assign y=>exact (mv h).elim
 case load t y=>
  unfold eb at h;split at h
  ·split at h
   ·exact (no rfl h).elim
   ·cases h
  ·split at h
   ·exact (no rfl h).elim
   ·cases h
  ·rename_i hv
   split at h
   ·rename_i cells hc
    split at h
    ·rename_i y0 hy0
     split at h
     ·injection h with e;injection e with _ e;subst e
      injection hb with hb;injection hb with hb hcs;subst hb;subst hcs;refine ⟨by simp[kW,hv,nx],lt hc,rfl,fun _=> ?_⟩;unfold fH;rw[List.getElem?_set_self (lt hc),hc];simp only[Option.map_some];congr 2;apply List.ext_getElem
      ·simp
      ·intro i h1 h2
       simp only[List.getElem_map,List.getElem_modify];split
       ·rename_i e
        obtain ⟨_,hy⟩:=List.getElem?_eq_some_iff.1 hy0;subst e;rw[hy];rename_i q _ _ _ _ _ _ _ _
        first|rfl|(cases ‹Bool› <;>rfl)
       ·rfl
     ·cases h
     ·exact (no rfl h).elim
    ·cases h
   ·cases h
  ·split at h
   ·split at h
    ·exact (no rfl h).elim
    ·cases h
   ·cases h
  ·cases h
 case store t y z=>
  unfold km at h;split at h
  ·rename_i hv
   split at h
   ·rename_i cells hc
    split at h
    ·split at h
     ·injection h with e;injection e with _ e;subst e
      injection hb with hb;injection hb with hb _;subst hb;exact ⟨by simp[kW,hv,nx],lt hc,rfl,fun e=>by cases e⟩
     ·cases h
    ·split at h
     ·split at h
      ·injection h with e;injection e with _ e;subst e
       injection hb with hb;injection hb with hb _;subst hb;exact ⟨by simp[kW,hv,nx],lt hc,rfl,fun e=>by cases e⟩
      ·cases h
     ·cases h
   ·cases h
  ·cases h
 case call cl=>
  unfold wN at h;split at h
  ·exfalso
   unfold oM at h
   repeat' (first|exact plain h|exact no rfl h|(split at h))
  ·rename_i y z t tx h1 h2 h3
   rcases oL h with h|h
   ·exfalso
    unfold fl at h
    repeat' (first|exact no rfl h|(split at h)|(cases h;done))
   unfold mT at h;split at h
   ·rename_i hv
    split at h
    ·rename_i hc
     split at h
     ·injection h with e;injection e with _ e;subst e
      injection hb with hb;injection hb with hb _;subst hb;exact ⟨by simp[kW,h2,hv,gK],lt hc,rfl,fun e=>by cases e⟩
     ·cases h
    ·cases h
   ·cases h
  ·rename_i y z t tx h1 h2 h3
   unfold oz at h;split at h
   ·rename_i hv
    split at h
    ·rename_i hc
     split at h
     ·injection h with e;injection e with _ e;subst e
      injection hb with hb;injection hb with hb _;subst hb;exact ⟨by simp[kW,h2,hv,gK],lt hc,rfl,fun e=>by cases e⟩
     ·cases h
    ·cases h
   ·cases h
  ·exact (plain h).elim
 all_goals exfalso
 all_goals first
  |exact plain h
  |(unfold rT at h;(repeat' (first|exact no rfl h|(split at h)|(cases h;done)));done)
  |(unfold lN at h;(repeat' (first|exact no rfl h|(split at h)|(cases h;done)));done)
  |(unfold yv at h;(repeat' (first|exact no rfl h|(split at h)|(cases h;done)));done)
  |(unfold dX at h;(repeat' (first|exact no rfl h|(split at h)|(cases h;done)));done)
  |(unfold dA at h;(repeat' (first|exact no rfl h|(split at h)|(cases h;done)));done)
  |(unfold wg at h;(repeat' (first|exact no rfl h|(split at h)|(cases h;done)));done)
  |(unfold iJ at h;(repeat' (first|exact no rfl h|(split at h)|(cases h;done)));done)
  |(unfold mS at h;(repeat' (first|exact no rfl h|(split at h)|(cases h;done)));done)
  |(unfold lO at h;(repeat' (first|exact plain h|exact no rfl h|(split at h)|(cases h;done)));done)
  |(unfold mR at h;(repeat' (first|exact no rfl h|(split at h)|(cases h;done)));done)
  |(unfold eF at h;(repeat' (first|exact no rfl h|(split at h)|(cases h;done)));done)
  |(unfold pG at h;(repeat' (first|exact no rfl h|(split at h)|(cases h;done)));done)
  |(unfold dK at h;(repeat' (first|exact plain h|exact no rfl h|(split at h)|(cases h;done)));done)
  |(unfold fA at h;(repeat' (first|exact plain h|exact no rfl h|(split at h)|(cases h;done)));done)
theorem LM {x:ad} {c:eJ} (h:j6 P tr s o=some (x,c)) (hm:makes o.op=true):c.new.isSome=true:=by
 obtain ⟨dst,op,type,pos,after,guard⟩:=o;cases op<;>simp only[makes] at hm<;>first|(cases hm;done)|skip
 ·simp only[j6,lN] at h
  split at h
  ·injection h with h;injection h with _ h;subst h;rfl
  ·cases h
 ·simp only[j6,yv] at h
  split at h
  ·injection h with h;injection h with _ h;subst h;rfl
  ·cases h
 ·simp only[j6,pG] at h
  repeat' (first|(split at h)|(injection h with h;injection h with _ h;subst h;rfl)|(cases h;done))
theorem LK {x:ad} {c:eJ} {u:Tmp} (h:j6 P tr s o=some (x,c)) (hu:c.aQ=some u):Operand.tmp u∈o.op.operands:=by
 have plain: ∀ {o:Oper},cv P s o=some (x,c)->False:=fun {o} h=>by
  unfold cv at h;split at h
  ·split at h
   ·injection h with h;injection h with _ h2;subst h2;cases hu
   ·cases h
  ·cases h
 have mv: ∀ {t:Bool} {y:Operand},fC t s y=(x,c)->Operand.tmp u=y:=fun {t y} h=>by
  unfold fC at h;split at h
  ·injection h with _ h2;subst h2;injection hu with hu;rw[hu]
  ·injection h with _ h2;subst h2;cases hu
 obtain ⟨dst,op,type,pos,after,guard⟩:=o;cases op<;>simp only[j6] at h<;>simp only[Op.operands]
 case move y=>injection h with h;simp[mv h]
 case assign y=>injection h with h;simp[mv h]
 case pick a b d=>
  unfold rT at h;split at h<;>first|(injection h with h;injection h with _ h2;subst h2;cases hu)|cases h
 case alloc t=>
  unfold lN at h;split at h<;>first|(injection h with h;injection h with _ h2;subst h2;cases hu)|cases h
 case box t y=>
  unfold yv at h;split at h<;>first|(injection h with h;injection h with _ h2;subst h2;cases hu)|cases h
 case load t y=>
  exfalso;unfold eb at h
  repeat' (first|(split at h)|(injection h with h;injection h with _ h2;subst h2;cases hu)|cases h)
 case store t y z=>
  unfold km at h;split at h
  ·split at h
   ·split at h
    ·rename_i hh
     split at h
     ·injection h with h;injection h with _ h2;subst h2;injection hu with hu
      subst hu;unfold holds at hh;split at hh
      ·split at hh
       ·injection hh with hh;injection hh with hh _;subst hh;simp
       ·cases hh
      ·cases hh
     ·cases h
    ·repeat' (first|(split at h)|(injection h with h;injection h with _ h2;subst h2;cases hu)|cases h)
   ·cases h
  ·cases h
 case fieldAddr t y f=>
  exfalso;unfold dX at h
  repeat' (first|(split at h)|(injection h with h;injection h with _ h2;subst h2;cases hu)|cases h)
 case indexAddr t y f=>
  exfalso;unfold dA at h
  repeat' (first|(split at h)|(injection h with h;injection h with _ h2;subst h2;cases hu)|cases h)
 case nilCheck y=>
  exfalso;unfold wg at h
  repeat' (first|(split at h)|(injection h with h;injection h with _ h2;subst h2;cases hu)|cases h)
 case extract y i=>
  exfalso;unfold iJ at h
  repeat' (first|(split at h)|(injection h with h;injection h with _ h2;subst h2;cases hu)|cases h)
 case field t y f=>
  exfalso;unfold mS at h
  repeat' (first|(split at h)|(injection h with h;injection h with _ h2;subst h2;cases hu)|cases h)
 case index t y i=>
  exfalso;unfold lO at h
  repeat' (first|exact plain h|(split at h)|(injection h with h;injection h with _ h2;subst h2;cases hu)|cases h)
 case build t ps=>
  exfalso;unfold mR at h
  repeat' (first|(split at h)|(injection h with h;injection h with _ h2;subst h2;cases hu)|cases h)
 case buildSlice t n ps=>
  exfalso;unfold eF at h
  repeat' (first|(split at h)|(injection h with h;injection h with _ h2;subst h2;cases hu)|cases h)
 case makeSlice t l c=>
  exfalso;unfold pG at h
  repeat' (first|(split at h)|(injection h with h;injection h with _ h2;subst h2;cases hu)|cases h)
 case slice t y lo hi mx=>
  exfalso;unfold dK at h
  repeat' (first|exact plain h|(split at h)|(injection h with h;injection h with _ h2;subst h2;cases hu)|cases h)
 case convert t u' y=>
  exfalso;unfold fA at h
  repeat' (first|exact plain h|(split at h)|(injection h with h;injection h with _ h2;subst h2;cases hu)|cases h)
 case call cl=>
  unfold wN at h;split at h
  ·exfalso
   unfold oM at h
   repeat' (first|exact plain h|(split at h)|(injection h with h;injection h with _ h2;subst h2;cases hu))
  ·rename_i y z t tx h1 h2 h3
   rcases oL h with h|h
   rotate_left
   ·exfalso
    unfold mT at h
    repeat' (first|(split at h)|(injection h with h;injection h with _ h2;subst h2;cases hu)|cases h)
   unfold fl at h;split at h
   ·split at h
    ·split at h
     ·rename_i hh
      split at h
      ·injection h with h;injection h with _ h2;subst h2;injection hu with hu
       subst hu;unfold holds at hh;split at hh
       ·split at hh
        ·injection hh with hh;injection hh with hh _;subst hh
         have hx: ∀ y∈cl.args.toList,y∈cl.operands:=fun y hy=>by simp[Call.operands,Array.mem_toList_iff.1 hy]
         exact hx _ (by rw[h2];simp)
        ·cases hh
       ·cases hh
      ·cases h
     ·exfalso
      repeat' (first|(split at h)|(injection h with h;injection h with _ h2;subst h2;cases hu)|cases h)
    ·cases h
   ·cases h
  ·exfalso
   unfold oz at h
   repeat' (first|(split at h)|(injection h with h;injection h with _ h2;subst h2;cases hu)|cases h)
  ·exact (plain h).elim
 all_goals exact (plain h).elim
end
section
variable {P:Program} {ops:Array Oper} {s s' s1 s2:St} {o:Oper} {c:Cl}
def Step (P:Program) (ops:Array Oper) (c:Cl) (o:Oper) (s s':St):Prop:=qJ P ops o s fun c' s2=>c'=c/\s2=s'
theorem tY {f:FuncId} {xs:List Operand} {K K':Cl->ad->St->Prop} (h: ∀ c r s,K c r s->K' c r s) (hh:Al P f xs s K):Al P f xs s K':=by
 rcases hh with ⟨r,h1,h2,h3⟩|⟨bs,L,args',Hs,Hs',r,hO,h1,h2,h3,h4,h5,h6,h7,h8,h9,hk⟩
 ·exact .inl ⟨r,h1,h2,h _ _ _ h3⟩
 ·exact .inr ⟨bs,L,args',Hs,Hs',r,hO,h1,h2,h3,h4,h5,h6,h7,h8,h9,h _ _ _ hk⟩
theorem Ir {f:FuncId} {xs:List Operand} {K:Cl->ad->St->Prop} (hh:Al P f xs s K): ∃ c r s',K c r s'/\Al P f xs s fun c' r' s2=>c'=c/\r'=r/\s2=s':=by
 rcases hh with ⟨r,h1,h2,h3⟩|⟨bs,L,args',Hs,Hs',r,hO,h1,h2,h3,h4,h5,h6,h7,h8,h9,hk⟩
 ·exact ⟨_,_,_,h3,.inl ⟨r,h1,h2,rfl,rfl,rfl⟩⟩
 ·exact ⟨_,_,_,hk,.inr ⟨bs,L,args',Hs,Hs',r,hO,h1,h2,h3,h4,h5,h6,h7,h8,h9,rfl,rfl,rfl⟩⟩
theorem Ge {K K':Cl->St->Prop} (h: ∀ c s,K c s->K' c s) (hh:Oj P ops o s K):Oj P ops o s K':=by
 rcases hh with ⟨x,c,h1,h2⟩|⟨v,h1,h2⟩|⟨x,c,fp,h1,h2⟩
 ·exact .inl ⟨x,c,h1,h _ _ h2⟩
 ·exact .inr (.inl ⟨v,h1,h _ _ h2⟩)
 ·exact .inr (.inr ⟨x,c,fp,h1,h _ _ h2⟩)
theorem mO {K K':Cl->St->Prop} (h: ∀ c s,K c s->K' c s) (hh:qJ P ops o s K):qJ P ops o s K':=by
 unfold qJ at*;cases hw:cK ops s o with
 |none=>rw[hw] at hh;exact hh
 |some t=>
  rw[hw] at hh;dsimp only at hh⊢;cases t with
  |false=>exact h _ _ hh
  |true=>
   simp only[if_true] at hh⊢;cases hc:cf o with
   |some fx=>
    rw[hc] at hh;dsimp only at hh⊢;exact tY (fun c r s k=>h _ _ k) hh
   |none=>
    rw[hc] at hh;exact Ge h hh
theorem Is {K:Cl->St->Prop} (h:qJ P ops o s K): ∃ c s',Step P ops c o s s'/\K c s':=by
 unfold Step;unfold qJ at h⊢;cases hw:cK ops s o with
 |none=>rw[hw] at h;exact h.elim
 |some t=>
  rw[hw] at h;dsimp only at h⊢;cases t with
  |false=>exact ⟨_,_,⟨rfl,rfl⟩,h⟩
  |true=>
   simp only[if_true] at h⊢;cases hc:cf o with
   |some fx=>
    rw[hc] at h;dsimp only at h⊢;obtain ⟨c,r,s',hk,hq⟩:=Ir h;exact ⟨_,_,tY (fun c' r' s2 ⟨e1,e2,e3⟩=>by subst e1;subst e2;subst e3;exact ⟨rfl,rfl⟩) hq,hk⟩
   |none=>
    rw[hc] at h;dsimp only at h⊢;rcases h with ⟨x,c,h1,h2⟩|⟨v,h1,h2⟩|⟨x,c,fp,h1,h2⟩
    ·exact ⟨_,_,.inl ⟨x,c,h1,rfl,rfl⟩,h2⟩
    ·exact ⟨_,_,.inr (.inl ⟨v,h1,rfl,rfl⟩),h2⟩
    ·exact ⟨_,_,.inr (.inr ⟨x,c,fp,h1,rfl,rfl⟩),h2⟩
inductive Way (P:Program) (ops:Array Oper) (o:Oper) (s:St):Cl->St->Prop
 |skip (h:cK ops s o=some false):Way P ops o s .q0 (s.put o.dst (.c .und))
 |op (x:ad) (c:eJ) (h:cK ops s o=some true) (hc:cf o=none) (ha:j6 P (el ops o) s o=some (x,c)):Way P ops o s (gM (el ops o) s o c) ((s.nV c).put o.dst x)
 |Kq (v:Value) (h:cK ops s o=some true) (hc:cf o=none) (hv:tX P s o v):Way P ops o s .q0 (s.put o.dst (wa v))
 |sop (x:ad) (c:eJ) (fp:List Nat) (h:cK ops s o=some true) (hc:cf o=none) (hs:oy P o s x c fp):Way P ops o s (jD s fp c) ((s.nV c).put o.dst x)
 |pure (f:FuncId) (xs:List Operand) (r:ad) (h:cK ops s o=some true) (hc:cf o=some (f,xs)) (h1:(xs.all fun x=>(s.ev x).h.ok 0)=true) (h2:Ok P f (xs.map fun x=>(s.ev x).h) [] r []):Way P ops o s .q0 (s.put o.dst r)
 |call (f:FuncId) (xs:List Operand) (bs L:List Nat) (args':List ad) (Hs Hs':List (Option (List aa))) (r:ad) (h:cK ops s o=some true) (hc:cf o=some (f,xs)) (hO:Ok P f args' Hs r Hs') (h1:bs.Nodup) (h2: ∀ b∈bs,b<s.H.length)
  (h3:Hs.map (cV (sig s.H.length bs))=(bs.map fun b=>s.H.getD b none)) (h4: ∀ x∈args',x.ok Hs.length=true) (h5:Hs.all (okB Hs.length)=true) (h6:Hs'.all (okB Hs'.length)=true)
  (h7:args'.map (ad.cW (sig s.H.length bs))=(xs.map fun x=>((s.ev x).h).cT s.H L)) (h8: ∀ b∈L,b∉bs) (h9:L=[]\/(r.bare=true/\Hs'.all wQ=true)):
  Way P ops o s ⟨bs++L,[],bs,if Hs'.length=bs.length then none else some s.H.length,false,false⟩ (({ s with H:=bt s.H bs (Hs'.map (cV (sig s.H.length bs))) }:St).put o.dst (r.cW (sig s.H.length bs)))
theorem jU:Step P ops c o s s'↔Way P ops o s c s':=by
 constructor
 ·intro h
  unfold Step qJ at h;cases hw:cK ops s o with
  |none=>rw[hw] at h;exact h.elim
  |some t=>
   rw[hw] at h;dsimp only at h;cases t with
   |false=>obtain ⟨rfl,rfl⟩:=h;exact .skip hw
   |true=>
    simp only[if_true] at h;cases hc:cf o with
    |some fx=>
     rw[hc] at h;dsimp only at h;obtain ⟨f,xs⟩:=fx;rcases h with ⟨r,h1,h2,rfl,rfl⟩|⟨bs,L,args',Hs,Hs',r,hO,h1,h2,h3,h4,h5,h6,h7,h8,h9,rfl,rfl⟩
     ·exact .pure f xs r hw hc h1 h2
     ·exact .call f xs bs L args' Hs Hs' r hw hc hO h1 h2 h3 h4 h5 h6 h7 h8 h9
    |none=>
     rw[hc] at h;dsimp only at h;rcases h with ⟨x,c,h1,rfl,rfl⟩|⟨v,h1,rfl,rfl⟩|⟨x,c,fp,h1,rfl,rfl⟩
     ·exact .op x c hw hc h1
     ·exact .Kq v hw hc h1
     ·exact .sop x c fp hw hc h1
 ·intro h
  unfold Step qJ;cases h with
  |skip hw=>rw[hw];exact ⟨rfl,rfl⟩
  |op x c hw hc ha=>rw[hw,hc];exact .inl ⟨x,c,ha,rfl,rfl⟩
  |Kq v hw hc hv=>rw[hw,hc];exact .inr (.inl ⟨v,hv,rfl,rfl⟩)
  |sop x c fp hw hc hs=>rw[hw,hc];exact .inr (.inr ⟨x,c,fp,hs,rfl,rfl⟩)
  |pure f xs r hw hc h1 h2=>rw[hw,hc];exact .inl ⟨r,h1,h2,rfl,rfl⟩
  |call f xs bs L args' Hs Hs' r hw hc hO h1 h2 h3 h4 h5 h6 h7 h8 h9=>rw[hw,hc];exact .inr ⟨bs,L,args',Hs,Hs',r,hO,h1,h2,h3,h4,h5,h6,h7,h8,h9,rfl,rfl⟩
theorem gB (h: ∀ t∈o.looksAt ops,s.ev (.tmp t)=s'.ev (.tmp t)):cK ops s o=cK ops s' o:=by
 unfold cK;cases hg:o.guard with
 |none=>rfl
 |some gw=>
  obtain ⟨j,want⟩:=gw;dsimp only;cases hj:ops[j]? with
  |none=>rfl
  |some oj=>
   dsimp only;cases hd:oj.dst with
   |none=>rfl
   |some d=>
    dsimp only;rw[h d (by simp[Oper.looksAt,hg,hj,hd])]
theorem m7 (h: ∀ t∈o.looksAt ops,s.ev (.tmp t)=s'.ev (.tmp t)): ∀ x∈o.op.operands,s.ev x=s'.ev x:=by
 intro x hx;cases x with
 |tmp t=>exact h t (List.mem_append_left _ (List.mem_filterMap.2 ⟨.tmp t,by simpa using hx,rfl⟩))
 |_=>rfl
theorem wU {f:FuncId} {xs:List Operand} (hc:cf o=some (f,xs)): ∀ x∈xs,x∈o.op.operands:=by
 intro x hx;unfold cf at hc
 split at hc
 ·rename_i cl ho
  split at hc
  ·injection hc with hc;injection hc with _ e;subst e
   rw[ho];simp[Op.operands,Call.operands,Array.mem_toList_iff.1 hx]
  ·cases hc
 ·cases hc
theorem Dp {tr:Bool} (h: ∀ x∈o.op.operands,s.ev x=s'.ev x):s6 tr s o=s6 tr s' o:=by
 unfold s6;cases ho:o.op<;>rw[ho] at h<;>try rfl
 rename_i t x;dsimp only;rw[h x (by simp[Op.operands])]
theorem Dn {tr:Bool} (h: ∀ x∈o.op.operands,s.ev x=s'.ev x):kW tr s o=kW tr s' o:=by
 unfold kW;cases ho:o.op<;>rw[ho] at h<;>try rfl
 ·rename_i t x;dsimp only;rw[h x (by simp[Op.operands])]
 ·rename_i t x y;dsimp only;rw[h x (by simp[Op.operands])]
 ·rename_i c
  dsimp only;split
  ·rename_i x y hx
   have hy:y∈c.args:=by rw[← Array.mem_toList_iff,hx];simp
   have hx':x∈c.args:=by rw[← Array.mem_toList_iff,hx];simp
   rw[h y (by simp[Op.operands,Call.operands,hy]),h x (by simp[Op.operands,Call.operands,hx'])]
  ·rfl
theorem aa.gy {σ τ:Nat->Nat} {n:Nat} (hσ: ∀ i,i<n->σ i=τ i) {x:aa} (h:x.ok n=true):x.cW σ=x.cW τ:=by
 cases x<;>first|rfl|(simp only[aa.ok,decide_eq_true_eq] at h;simp only[aa.cW,hσ _ h])
theorem kz {σ τ:Nat->Nat} {n:Nat} (hσ: ∀ i,i<n->σ i=τ i) {l:List aa} (h:l.all (aa.ok n)=true):l.map (aa.cW σ)=l.map (aa.cW τ):=
 List.map_congr_left fun x hx=>aa.gy hσ (List.all_eq_true.1 h x hx)
theorem bj.gy {σ τ:Nat->Nat} {n:Nat} (hσ: ∀ i,i<n->σ i=τ i) {x:bj} (h:x.ok n=true):x.cW σ=x.cW τ:=by
 cases x with
 |c x=>simp only[bj.cW,aa.gy hσ (show x.ok n=true from h)]
 |agg cs=>simp only[bj.cW,kz hσ (show cs.all (aa.ok n)=true from h)]
theorem ad.gy {σ τ:Nat->Nat} {n:Nat} (hσ: ∀ i,i<n->σ i=τ i) {x:ad} (h:x.ok n=true):x.cW σ=x.cW τ:=by
 cases x with
 |c x=>simp only[ad.cW,aa.gy hσ (show x.ok n=true from h)]
 |agg cs=>simp only[ad.cW,kz hσ (show cs.all (aa.ok n)=true from h)]
 |cC ts=>simp only[ad.cW,List.map_congr_left fun x hx=>bj.gy hσ (List.all_eq_true.1 (show ts.all (bj.ok n)=true from h) x hx)]
theorem vz {σ τ:Nat->Nat} {n:Nat} (hσ: ∀ i,i<n->σ i=τ i) {x:Option (List aa)} (h:okB n x=true):cV σ x=cV τ x:=by
 cases x with
 |none=>rfl
 |some cs=>simp only[cV,kz hσ (show cs.all (aa.ok n)=true from h)]
theorem xT {bs:List Nat} (n m:Nat): ∀ i,i<bs.length->sig n bs i=sig m bs i:=fun i hi=>by
 simp[sig,List.getD_eq_getElem?_getD,List.getElem?_eq_getElem hi]
theorem aa.jK {H H':List (Option (List aa))} {L:List Nat} (h: ∀ b∈L,H[b]? =H'[b]?) (x:aa):x.cT H L=x.cT H' L:=by
 cases x with
 |arr b off len cap=>
  unfold aa.cT;dsimp only;by_cases hc:b∈L/\len<=cap
  ·rw[if_pos hc,if_pos hc,h b hc.1]
  ·rw[if_neg hc,if_neg hc]
 |_=>rfl
theorem ad.jK {H H':List (Option (List aa))} {L:List Nat} (h: ∀ b∈L,H[b]? =H'[b]?) (x:ad):x.cT H L=x.cT H' L:=by
 have hl: ∀ cs:List aa,cs.map (aa.cT H L)=cs.map (aa.cT H' L):=fun cs=>List.map_congr_left fun x _=>aa.jK h x
 cases x with
 |c x=>simp only[ad.cT,aa.jK h x]
 |agg cs=>simp only[ad.cT,hl]
 |cC ts=>simp only[ad.cT,List.map_congr_left fun (x:bj) (_:x∈ts)=>show x.cT H L=x.cT H' L by cases x<;>simp only[bj.cT,hl,aa.jK h]]
structure zZ where
 x:ad
 aQ:Option Tmp:=none
 wr:List (Nat×Option (List aa)):=[]
 new:List (Option (List aa)):=[]
def ew (H:List (Option (List aa))):List (Nat×Option (List aa))->List (Option (List aa))
 |[]=>H
 |(b,c)::l=>ew (H.set b c) l
def St.h (s:St) (H:List (Option (List aa))):St:={ s with H:=H }
def zZ.app (E:zZ) (d:Option Tmp) (s:St):St:=((s.fD E.aQ).h (ew s.H E.wr++E.new)).put d E.x
theorem gZ: ∀ (l:List (Nat×Option (List aa))) (H:List (Option (List aa))),(ew H l).length=H.length
 |[],H=>rfl
 |(b,c)::l,H=>by simp[ew,gZ l]
theorem iS: ∀ (l:List (Nat×Option (List aa))) (H:List (Option (List aa))) (b:Nat),(∀ p∈l,p.1≠b)->(ew H l)[b]? =H[b]?
 |[],H,b,_=>rfl
 |(b',c)::l,H,b,h=>by
  simp only[ew];rw[iS l _ b fun p hp=>h p (by simp[hp]),List.getElem?_set_ne (h (b',c) (by simp))]
theorem nH: ∀ (l:List (Nat×Option (List aa))) (H B:List (Option (List aa))),(∀ p∈l,p.1<H.length)->ew (H++B) l=ew H l++B
 |[],H,B,_=>rfl
 |(b,c)::l,H,B,h=>by
  simp only[ew];rw[List.set_append_left _ _ (h (b,c) (by simp)),nH l _ _ fun p hp=>by rw[List.length_set];exact h p (by simp[hp])]
theorem Cc: ∀ (l:List (Nat×Option (List aa))) (H:List (Option (List aa))) (b:Nat) (c:Option (List aa)),(∀ p∈l,p.1≠b)->ew (H.set b c) l=(ew H l).set b c
 |[],H,b,c,_=>rfl
 |(b',c')::l,H,b,c,h=>by
  simp only[ew];rw[List.set_comm _ _ (fun e=>h (b',c') (by simp) e.symm),Cc l _ b c fun p hp=>h p (by simp[hp])]
theorem xQ: ∀ (l m:List (Nat×Option (List aa))) (H:List (Option (List aa))),(∀ p∈l,∀ q∈m,p.1≠q.1)->ew (ew H l) m=ew (ew H m) l
 |[],m,H,_=>rfl
 |(b,c)::l,m,H,h=>by
  simp only[ew];rw[xQ l m _ fun p hp q hq=>h p (by simp[hp]) q hq,Cc m H b c fun q hq e=>h (b,c) (by simp) q hq e.symm]
theorem qp: ∀ (bs:List Nat) (H Cs:List (Option (List aa))),bs.length<=Cs.length->bt H bs Cs=ew H (bs.zip Cs)++Cs.drop bs.length
 |[],H,Cs,_=>by simp[bt,ew]
 |b::bs,H,[],h=>by simp at h
 |b::bs,H,c::Cs,h=>by
  simp only[bt,List.zip_cons_cons,ew,List.length_cons,List.drop_succ_cons];exact qp bs _ Cs (by simpa using h)
theorem IP (E:zZ) (d:Option Tmp):(E.app d s).H=ew s.H E.wr++E.new:=by
 unfold zZ.app;cases d<;>rfl
theorem IS {E:zZ} {d:Option Tmp} {t:Tmp} (h1:d≠some t) (h2:E.aQ≠some t):(E.app d s).ev (.tmp t)=s.ev (.tmp t):=by
 unfold zZ.app;have e1: ∀ s':St,(s'.put d E.x).ev (.tmp t)=s'.ev (.tmp t):=fun s'=>by
  cases d with
  |none=>rfl
  |some d=>exact aw _ _ (fun e=>h1 (by rw[e]))
 rw[e1];show (s.fD E.aQ).sl t=s.sl t
 cases hd:E.aQ with
 |none=>rfl
 |some u=>exact aw _ _ (fun e=>h2 (by rw[hd,e]))
structure Ob (P:Program) (ops:Array Oper) (c:Cl) (o:Oper) (s s1:St) (E:zZ):Prop where
 eq:s1=E.app o.dst s
 aQ: ∀ u,E.aQ=some u->c.aQ=true/\Operand.tmp u∈o.op.operands
 wr: ∀ p∈E.wr,p.1∈c.wr/\p.1<s.H.length
 wf: ∀ b∈c.wr,b∈c.fp
 new:E.new≠[]->c.new=some s.H.length
 newn: ∀ n,c.new=some n->n=s.H.length
 soft:c.soft=true-> ∀ b,fH (ew s.H E.wr) b=fH s.H b
 all: ∀ s',(∀ t∈o.looksAt ops,s.ev (.tmp t)=s'.ev (.tmp t))->(∀ b∈c.fp,s.H[b]? =s'.H[b]?)->(∀ b∈c.fr,fH s.H b=fH s'.H b)->(c.new.isSome=true->s.H.length=s'.H.length)->Step P ops c o s' (E.app o.dst s')
theorem Step.Tn (h:Step P ops c o s s1): ∃ E,Ob P ops c o s s1 E:=by
 rw[jU] at h;have hz: ∀ (s:St) (d:Option Tmp) (x:ad),s.put d x=(zZ.mk x none [] []).app d s:=fun s d x=>by
  simp[zZ.app,St.fD,ew,St.h]
 cases h with
 |skip hw=>
  refine ⟨⟨.c .und,none,[],[]⟩,hz _ _ _,fun u e=>(by cases e),fun p hp=>(by cases hp),fun b hb=>(by cases hb),fun e=>absurd rfl e,fun n e=>(by cases e),fun _ _=>rfl,fun s' hl _ _ _=> ?_⟩;rw[← hz];exact jU.2 (.skip (by rw[← gB hl];exact hw))
 |Kq v hw hcc hv=>
  refine ⟨⟨wa v,none,[],[]⟩,hz _ _ _,fun u e=>(by cases e),fun p hp=>(by cases hp),fun b hb=>(by cases hb),fun e=>absurd rfl e,fun n e=>(by cases e),fun _ _=>rfl,fun s' hl _ _ _=> ?_⟩;rw[← hz];have hev:=m7 hl;obtain ⟨b,t,x,y,u,ho⟩:=hv.op;refine jU.2 (.Kq v (by rw[← gB hl];exact hw) hcc ⟨hv.op,?_,fun w=> ?_⟩)
  ·rw[List.all_eq_true]
   intro x hx;rw[← hev x (by simpa using hx)];exact List.all_eq_true.1 hv.plain x hx
  ·rw[execOp_congr (ρ:=s'.env) (ρ':=s.env) o (fun cs b e=>by rw[ho] at e;cases e) (fun x hx=>by unfold St.env;rw[hev x hx])]
   exact hv.run w
 |pure f xs r hw hcc h1 h2=>
  refine ⟨⟨r,none,[],[]⟩,hz _ _ _,fun u e=>(by cases e),fun p hp=>(by cases hp),fun b hb=>(by cases hb),fun e=>absurd rfl e,fun n e=>(by cases e),fun _ _=>rfl,fun s' hl _ _ _=> ?_⟩;rw[← hz];have he: ∀ x∈xs,s.ev x=s'.ev x:=fun x hx=>m7 hl x (wU hcc x hx)
  have e1:(xs.map fun x=>(s.ev x).h)=xs.map fun x=>(s'.ev x).h:=List.map_congr_left fun x hx=>by rw[he x hx]
  refine jU.2 (.pure f xs r (by rw[← gB hl];exact hw) hcc ?_ (by rw[← e1];exact h2));rw[List.all_eq_true] at h1⊢
  intro x hx;rw[← he x hx];exact h1 x hx
 |op x ch hw hcc ha=>
  have hE: ∀ s:St,(s.nV ch).put o.dst x=(zZ.mk x ch.aQ (match ch.dk with|some (b,cs)=>[(b,some cs)]|none=>[]) (match ch.new with|some cs=>[some cs]|none=>[])).app o.dst s:=fun s=>by
   unfold zZ.app St.nV;obtain ⟨d,b,n⟩:=ch;cases d<;>cases b<;>cases n<;>simp[St.fD,St.mW,St.nu,St.h,ew,dT,St.aQ]
  refine ⟨_,hE s,fun u e=>⟨?_,LK ha e⟩,fun p hp=> ?_,fun b hb=> ?_,fun e=> ?_,fun n e=> ?_,fun hsf b=> ?_,fun s' hl hf hfr hn=> ?_⟩
  ·have e:ch.aQ=some u:=e
   simp[gM,e]
  ·cases hb:ch.dk with
   |none=>simp[hb] at hp
   |some bc=>
    obtain ⟨b,cs⟩:=bc;simp only[hb,List.mem_singleton] at hp;subst hp;exact ⟨by simp[gM,eJ.wr,hb],(yB ha hb).2.1⟩
  ·cases hbb:ch.dk with
   |none=>simp[gM,eJ.wr,hbb] at hb
   |some bc=>
    obtain ⟨b',cs⟩:=bc;simp only[gM,eJ.wr,hbb,List.mem_singleton] at hb;subst hb;exact (yB ha hbb).1
  ·cases hn:ch.new with
   |none=>simp[hn] at e
   |some cs=>simp[gM,hn]
  ·cases hn:ch.new with
   |none=>simp[gM,hn] at e
   |some cs=>simp[gM,hn] at e;exact e.symm
  ·have hsf:rj o.op=true:=hsf
   cases hb:ch.dk with
   |none=>rfl
   |some bc=>
    obtain ⟨b',cs⟩:=bc;obtain ⟨_,k2,_,k4⟩:=yB ha hb;show fH (s.H.set b' (some cs)) b=fH s.H b
    by_cases e:b'=b
    ·subst e;exact k4 hsf
    ·unfold fH;rw[List.getElem?_set_ne e]
  ·rw[← hE]
   have hev:=m7 hl;have ha':j6 P (el ops o) s' o=some (x,ch):=by
    rw[← LL hev hf hfr (fun hm=>hn (by simp only[gM];rw[LM ha hm];rfl))];exact ha
   have:=Way.op (P:=P) (ops:=ops) (o:=o) (s:=s') x ch (by rw[← gB hl];exact hw) hcc ha';have e1:gM (el ops o) s' o ch=gM (el ops o) s o ch:=by
    unfold gM;rw[Dn hev,Dp hev];cases hc:ch.new with
    |none=>rfl
    |some cs=>simp only[Option.isSome_some,if_true];rw[hn (by simp[gM,hc])]
   rw[e1] at this;exact jU.2 this
 |sop x ch fp hw hcc hs=>
  have hE: ∀ s:St,(s.nV ch).put o.dst x=(zZ.mk x ch.aQ (match ch.dk with|some (b,cs)=>[(b,some cs)]|none=>[]) (match ch.new with|some cs=>[some cs]|none=>[])).app o.dst s:=fun s=>by
   unfold zZ.app St.nV;obtain ⟨d,b,n⟩:=ch;cases d<;>cases b<;>cases n<;>simp[St.fD,St.mW,St.nu,St.h,ew,dT,St.aQ]
  refine ⟨_,hE s,fun u e=> ?_,fun p hp=> ?_,fun b hb=> ?_,fun e=> ?_,fun n e=> ?_,fun hsf=>(by cases hsf),fun s' hl hf _ hn=> ?_⟩
  ·have e:ch.aQ=some u:=e
   rw[hs.aQ] at e;cases e
  ·cases hb:ch.dk with
   |none=>simp[hb] at hp
   |some bc=>
    obtain ⟨b,cs⟩:=bc;simp only[hb,List.mem_singleton] at hp;subst hp;exact ⟨by simp[jD,eJ.wr,hb],(hs.dk _ _ hb).2⟩
  ·cases hbb:ch.dk with
   |none=>simp[jD,eJ.wr,hbb] at hb
   |some bc=>
    obtain ⟨b',cs⟩:=bc;simp only[jD,eJ.wr,hbb,List.mem_singleton] at hb;subst hb;exact (hs.dk _ _ hbb).1
  ·cases hn:ch.new with
   |none=>simp[hn] at e
   |some cs=>simp[jD,hn]
  ·cases hn:ch.new with
   |none=>simp[jD,hn] at e
   |some cs=>simp[jD,hn] at e;exact e.symm
  ·rw[← hE]
   have hev:=m7 hl;have hn':ch.new.isSome=true->s.H.length=s'.H.length:=fun e=>hn (by simp[jD,e])
   have:=Way.sop (P:=P) (ops:=ops) (o:=o) (s:=s') x ch fp (by rw[← gB hl];exact hw) hcc (hs.congr hev hf hn');have e1:jD s' fp ch=jD s fp ch:=by
    unfold jD;cases hc:ch.new with
    |none=>rfl
    |some cs=>simp only[Option.isSome_some,if_true];rw[hn' (by rw[hc];rfl)]
   rw[e1] at this;exact jU.2 this
 |call f xs bs L args' Hs Hs' r hw hcc hO h1 h2 h3 h4 h5 h6 h7 h8 h9=>
  have hlen:Hs.length=bs.length:=by simpa using congrArg List.length h3
  have hle:bs.length<=Hs'.length:=by have:=hO.len;omega
  have hE: ∀ s:St,(({ s with H:=bt s.H bs (Hs'.map (cV (sig s.H.length bs))) }:St).put o.dst (r.cW (sig s.H.length bs)))=(zZ.mk (r.cW (sig s.H.length bs)) none (bs.zip (Hs'.map (cV (sig s.H.length bs)))) ((Hs'.map (cV (sig s.H.length bs))).drop bs.length)).app o.dst s:=fun s=>by
   simp only[zZ.app,St.fD,St.h];rw[qp _ _ _ (by simpa using hle)]
  refine ⟨_,hE s,fun u e=>(by cases e),fun p hp=> ?_,fun b hb=>List.mem_append_left _ hb,fun e=> ?_,fun n e=> ?_,fun hsf=>(by cases hsf),fun s' hl hf _ hn=> ?_⟩
  ·have:=(List.of_mem_zip hp).1
   exact ⟨this,h2 _ this⟩
  ·show (if Hs'.length=bs.length then none else some s.H.length)=_
   rw[if_neg];intro e2;exact e (List.drop_eq_nil_of_le (by simp[e2]))
  ·have e:(if Hs'.length=bs.length then none else some s.H.length)=some n:=e
   split at e
   ·cases e
   ·injection e with e;exact e.symm
  ·have he: ∀ x∈xs,s.ev x=s'.ev x:=fun x hx=>m7 hl x (wU hcc x hx)
   have hfb: ∀ b∈bs,s.H[b]? =s'.H[b]? :=fun b hb=>hf b (List.mem_append_left _ hb)
   have hfL: ∀ b∈L,s.H[b]? =s'.H[b]? :=fun b hb=>hf b (List.mem_append_right _ hb)
   have hn':Hs'.length=bs.length\/s.H.length=s'.H.length:=by
    by_cases e:Hs'.length=bs.length
    ·exact .inl e
    ·exact .inr (hn (by show (if Hs'.length=bs.length then none else some s.H.length).isSome=true;rw[if_neg e];rfl))
   have hs0: ∀ i,i<Hs.length->sig s.H.length bs i=sig s'.H.length bs i:=fun i hi=>xT _ _ i (by omega)
   have hs1: ∀ i,i<Hs'.length->sig s.H.length bs i=sig s'.H.length bs i:=fun i hi=>by
    rcases hn' with e|e
    ·exact xT _ _ i (by omega)
    ·rw[e]
   have q1:Hs.map (cV (sig s.H.length bs))=Hs.map (cV (sig s'.H.length bs)):=List.map_congr_left fun x hx=>vz hs0 (List.all_eq_true.1 h5 x hx)
   have q2:Hs'.map (cV (sig s.H.length bs))=Hs'.map (cV (sig s'.H.length bs)):=List.map_congr_left fun x hx=>vz hs1 (List.all_eq_true.1 h6 x hx)
   have q3:args'.map (ad.cW (sig s.H.length bs))=args'.map (ad.cW (sig s'.H.length bs)):=List.map_congr_left fun x hx=>ad.gy hs0 (h4 x hx)
   have q4:r.cW (sig s.H.length bs)=r.cW (sig s'.H.length bs):=ad.gy hs1 hO.rok;have q5:(bs.map fun b=>s.H.getD b none)=bs.map fun b=>s'.H.getD b none:=List.map_congr_left fun b hb=>by rw[List.getD_eq_getElem?_getD,List.getD_eq_getElem?_getD,hfb b hb]
   have q6:(xs.map fun x=>((s.ev x).h).cT s.H L)=xs.map fun x=>((s'.ev x).h).cT s'.H L:=List.map_congr_left fun x hx=>by rw[he x hx,ad.jK hfL]
   have:=Way.call (P:=P) (ops:=ops) (o:=o) (s:=s') f xs bs L args' Hs Hs' r (by rw[← gB hl];exact hw) hcc hO h1 (fun b hb=>by
    have e1:=List.getElem?_eq_getElem (h2 b hb);rw[hfb b hb] at e1
    exact (List.getElem?_eq_some_iff.1 e1).1) (by rw[← q1,← q5];exact h3) h4 h5 h6 (by rw[← q3,← q6];exact h7) h8 h9
   rw[hE s',← q2,← q4] at this;have e2:(if Hs'.length=bs.length then none else some s'.H.length)=(if Hs'.length=bs.length then none else some s.H.length):=by
    rcases hn' with e|e
    ·rw[if_pos e,if_pos e]
    ·rw[e]
   rw[e2] at this;exact jU.2 this
theorem vV {α:Type} (f:Nat->α) {i j:Nat} (x y:α) (h:i≠j):dJ (dJ f i x) j y=dJ (dJ f j y) i x:=by
 funext k;by_cases e1:k=i
 ·subst e1;rw[aw _ _ h,aG,aG]
 ·by_cases e2:k=j
  ·subst e2;rw[aG,aw _ _ e1,aG]
  ·rw[aw _ _ e2,aw _ _ e1,aw _ _ e1,aw _ _ e2]
theorem Rm (d:Option Tmp) (x:ad):(s.put d x).H=s.H:=by cases d<;>rfl
theorem put_comm {d e:Option Tmp} (x y:ad) (h: ∀ t,d=some t->e≠some t):(s.put d x).put e y=(s.put e y).put d x:=by
 cases d with
 |none=>rfl
 |some d=>
  cases e with
  |none=>rfl
  |some e=>
   have:d≠e:=fun he=>h d rfl (by rw[he])
   simp[St.put,vV _ _ _ this]
theorem L3 {u:Option Tmp} {d:Option Tmp} {x:ad} (h: ∀ t,u=some t->d≠some t):(s.put d x).fD u=(s.fD u).put d x:=by
 cases u with
 |none=>rfl
 |some u=>
  cases d with
  |none=>rfl
  |some d=>
   have hne:d≠u:=fun e=>h u rfl (by rw[e])
   simp only[St.fD,St.aQ,St.put];rw[aw _ _ (fun e=>hne e.symm),vV _ _ _ hne]
theorem yO {u v:Option Tmp}:(s.fD u).fD v=(s.fD v).fD u:=by
 cases u with
 |none=>rfl
 |some u=>
  cases v with
  |none=>rfl
  |some v=>
   simp only[St.fD,St.aQ];by_cases e:u=v
   ·subst e;rfl
   ·rw[aw _ _ (fun h=>e h.symm),aw _ _ e,vV _ _ _ e]
theorem QS {u:Option Tmp} {H:List (Option (List aa))}:(s.h H).fD u=(s.fD u).h H:=by cases u<;>rfl
theorem J8 {d:Option Tmp} {x:ad} {H:List (Option (List aa))}:(s.h H).put d x=(s.put d x).h H:=by cases d<;>rfl
theorem Ty {H H':List (Option (List aa))}:(s.h H).h H'=s.h H':=rfl
theorem IQ {E F:zZ} {d e:Option Tmp} (h1: ∀ t,d=some t->e≠some t) (h2: ∀ t,E.aQ=some t->e≠some t) (h3: ∀ t,F.aQ=some t->d≠some t)
  (hH:ew (ew s.H E.wr++E.new) F.wr++F.new=ew (ew s.H F.wr++F.new) E.wr++E.new):F.app e (E.app d s)=E.app d (F.app e s):=by
 have key: ∀ (A B:zZ) (x y:Option Tmp),(∀ t,B.aQ=some t->x≠some t)->B.app y (A.app x s)=(((((s.fD A.aQ).fD B.aQ).put x A.x).put y B.x).h (ew (ew s.H A.wr++A.new) B.wr++B.new)):=by
  intro A B x y hx;have e1:(A.app x s).H=ew s.H A.wr++A.new:=IP A x;unfold zZ.app at e1⊢
  rw[e1,L3 hx,QS,J8,J8,J8,Ty]
 rw[key E F d e h3,key F E e d h2,hH,yO,put_comm _ _ h1]
end
section
variable {P:Program} {ops:Array Oper} {s s' s1 s2:St} {o:Oper} {c:Cl}
def zo (ops:Array Oper) (x y:Oper):Bool:=(x.op.operands.toList.all fun a=>match a with| .tmp t=> !(y.looksAt ops).contains t|_=>true)
def below:Option Nat->List Nat->Bool
 |some n,l=>l.all fun b=>decide (b<n)
 |none,_=>true
def o7 (l m:List Nat):Bool:=l.all fun b=> !m.contains b
def iZ (ops:Array Oper) (ci cj:Cl) (oi oj:Oper):Bool:=
 oi.apart ops oj&&o7 ci.wr cj.fp&&o7 cj.wr ci.fp&& !(ci.new.isSome&&cj.new.isSome)&&below ci.new cj.fp&&below cj.new ci.fp&&(!ci.aQ||zo ops oi oj)&&(!cj.aQ||zo ops oj oi)&&(ci.soft||o7 ci.wr cj.fr)&&(cj.soft||o7 cj.wr ci.fr)&&below ci.new cj.fr&&below cj.new ci.fr
theorem vi {x y:Oper} (h:zo ops x y=true) {t:Tmp} (ht:t∈y.looksAt ops):Operand.tmp t∉x.op.operands:=fun hm=>by
 have:=List.all_eq_true.1 h (.tmp t) (by simpa using hm);simp[ht] at this
theorem ll {l m:List Nat} (h:o7 l m=true) {b:Nat} (h1:b∈l):b∉m:=fun h2=>by
 have:=List.all_eq_true.1 h b h1;simp[h2] at this
theorem xR: ∀ (l:List (Nat×Option (List aa))) (A B:List (Option (List aa))) (b:Nat),A[b]? =B[b]? ->b<A.length->b<B.length->(ew A l)[b]? =(ew B l)[b]?
 |[],A,B,b,h,_,_=>h
 |(c,x)::l,A,B,b,h,ha,hb=>by
  simp only[ew];refine xR l _ _ b ?_ (by simpa using ha) (by simpa using hb);by_cases e:c=b
  ·subst e;rw[List.getElem?_set_self ha,List.getElem?_set_self hb]
  ·rw[List.getElem?_set_ne e,List.getElem?_set_ne e];exact h
theorem swap {ci cj:Cl} {oi oj:Oper} (hc:iZ ops ci cj oi oj=true) (h1:Step P ops ci oi s s1) (h2:Step P ops cj oj s1 s2): ∃ s',Step P ops cj oj s s'/\Step P ops ci oi s' s2:=by
 simp only[iZ,Bool.and_eq_true,Bool.or_eq_true,Bool.not_eq_true'] at hc;obtain ⟨⟨⟨⟨⟨⟨⟨⟨⟨⟨⟨hap,hm1⟩,hm2⟩,hnn⟩,hb1⟩,hb2⟩,hd1⟩,hd2⟩,hs1⟩,hs2⟩,hb3⟩,hb4⟩:=hc;obtain ⟨a1,a2,a3⟩:=Oper.apart_spec hap;obtain ⟨E,hE⟩:=h1.Tn;obtain ⟨F,hF⟩:=h2.Tn;have hEd: ∀ t∈oj.looksAt ops,E.aQ≠some t:=fun t ht e=>by
  obtain ⟨k1,k2⟩:=hE.aQ t e;rcases hd1 with hd|hd
  ·rw[hd] at k1;cases k1
  ·exact vi hd ht k2
 have hFd: ∀ t∈oi.looksAt ops,F.aQ≠some t:=fun t ht e=>by
  obtain ⟨k1,k2⟩:=hF.aQ t e;rcases hd2 with hd|hd
  ·rw[hd] at k1;cases k1
  ·exact vi hd ht k2
 have e1:=hE.eq;have H1:s1.H=ew s.H E.wr++E.new:=by rw[e1,IP]
 have nE:ci.new=none->E.new=[]:=fun e=>by
  by_cases hn:E.new=[]
  ·exact hn
  ·rw[hE.new hn] at e;cases e
 have nF:cj.new=none->F.new=[]:=fun e=>by
  by_cases hn:F.new=[]
  ·exact hn
  ·rw[hF.new hn] at e;cases e
 have one:E.new=[]\/F.new=[]:=by
  cases hi:ci.new with
  |none=>exact .inl (nE hi)
  |some n=>
   cases hj:cj.new with
   |none=>exact .inr (nF hj)
   |some m=>rw[hi,hj] at hnn;cases hnn
 have len1:ci.new=none->s1.H.length=s.H.length:=fun e=>by rw[H1,nE e,List.append_nil,gZ]
 
 have fj: ∀ b∈cj.fp,s1.H[b]? =s.H[b]? :=fun b hb=>by
  rw[H1];have hk: ∀ p∈E.wr,p.1≠b:=fun p hp e=>ll hm1 (hE.wr p hp).1 (by rw[e];exact hb)
  cases hi:ci.new with
  |none=>rw[nE hi,List.append_nil,iS _ _ _ hk]
  |some n=>
   rw[hi] at hb1;have hlt:b<n:=by simpa using List.all_eq_true.1 hb1 b hb
   rw[hE.newn n hi] at hlt;rw[List.getElem?_append_left (by rw[gZ];exact hlt),iS _ _ _ hk]
 have soft1: ∀ b∈cj.fr,fH (ew s.H E.wr) b=fH s.H b:=fun b hb=>by
  rcases hs1 with hs|hs
  ·exact hE.soft hs b
  ·unfold fH;rw[iS _ _ _ (fun p hp e=>ll hs (hE.wr p hp).1 (by rw[e];exact hb))]
 have fjr: ∀ b∈cj.fr,fH s1.H b=fH s.H b:=fun b hb=>by
  rw[H1];cases hi:ci.new with
  |none=>rw[nE hi,List.append_nil];exact soft1 b hb
  |some n=>
   rw[hi] at hb3;have hlt:b<n:=by simpa using List.all_eq_true.1 hb3 b hb
   rw[hE.newn n hi] at hlt;rw[← soft1 b hb];unfold fH;rw[List.getElem?_append_left (by rw[gZ];exact hlt)]
 have sj:=hF.all s (fun t ht=>by rw[e1];exact IS (fun e=>a1 t e ht) (hEd t ht)) fj fjr (fun hn=>by
  refine len1 ?_;cases hi:ci.new with
  |none=>rfl
  |some n=>rw[hi,hn] at hnn;cases hnn)
 refine ⟨_,sj,?_⟩;have H2:(F.app oj.dst s).H=ew s.H F.wr++F.new:=IP F _;have fi: ∀ b∈ci.fp,s.H[b]? =(F.app oj.dst s).H[b]? :=fun b hb=>by
  rw[H2];have hk: ∀ p∈F.wr,p.1≠b:=fun p hp e=>ll hm2 (hF.wr p hp).1 (by rw[e];exact hb)
  cases hj:cj.new with
  |none=>rw[nF hj,List.append_nil,iS _ _ _ hk]
  |some n=>
   have hi:ci.new=none:=by
    cases hi:ci.new with
    |none=>rfl
    |some m=>rw[hi,hj] at hnn;cases hnn
   rw[hj] at hb2;have hlt:b<n:=by simpa using List.all_eq_true.1 hb2 b hb
   rw[hF.newn n hj,len1 hi] at hlt;rw[List.getElem?_append_left (by rw[gZ];exact hlt),iS _ _ _ hk]
 have soft2: ∀ b∈ci.fr,fH (ew s.H F.wr) b=fH s.H b:=fun b hb=>by
  rcases hs2 with hs|hs
  ·have k:=hF.soft hs
   
   by_cases hbw: ∃ p∈F.wr,p.1=b
   ·obtain ⟨p,hp,rfl⟩:=hbw
    have q1:fH (ew s1.H F.wr) p.1=fH (ew s.H F.wr) p.1:=by
     unfold fH;have hlt1:p.1<s1.H.length:=(hF.wr p hp).2;have hfp:=hF.wf _ (hF.wr p hp).1;have e3:=fj p.1 hfp;have hlt:p.1<s.H.length:=by
      rcases Nat.lt_or_ge p.1 s.H.length with h|h
      ·exact h
      ·rw[List.getElem?_eq_none h,List.getElem?_eq_getElem hlt1] at e3;cases e3
     rw[xR F.wr s1.H s.H p.1 e3 hlt1 hlt]
    rw[← q1,k p.1];unfold fH;rw[fj p.1 (hF.wf _ (hF.wr p hp).1)]
   ·unfold fH;rw[iS _ _ _ (fun p hp e=>hbw ⟨p,hp,e⟩)]
  ·unfold fH;rw[iS _ _ _ (fun p hp e=>ll hs (hF.wr p hp).1 (by rw[e];exact hb))]
 have fir: ∀ b∈ci.fr,fH s.H b=fH (F.app oj.dst s).H b:=fun b hb=>by
  rw[H2];cases hj:cj.new with
  |none=>rw[nF hj,List.append_nil];exact (soft2 b hb).symm
  |some n=>
   have hi:ci.new=none:=by
    cases hi:ci.new with
    |none=>rfl
    |some m=>rw[hi,hj] at hnn;cases hnn
   rw[hj] at hb4;have hlt:b<n:=by simpa using List.all_eq_true.1 hb4 b hb
   rw[hF.newn n hj,len1 hi] at hlt;rw[← soft2 b hb];unfold fH;rw[List.getElem?_append_left (by rw[gZ];exact hlt)]
 have si:=hE.all (F.app oj.dst s) (fun t ht=>(IS (fun e=>a3 t e ht) (hFd t ht)).symm) fi fir (fun hn=>by
  have hj:cj.new=none:=by
   cases hj:cj.new with
   |none=>rfl
   |some m=>rw[hj,hn] at hnn;cases hnn
  rw[H2,nF hj,List.append_nil,gZ])
 have mem: ∀ {o:Oper} {t:Tmp},Operand.tmp t∈o.op.operands->t∈o.looksAt ops:=fun {o t} hm=>List.mem_append_left _ (List.mem_filterMap.2 ⟨.tmp t,by simpa using hm,rfl⟩)
 have hcm:F.app oj.dst (E.app oi.dst s)=E.app oi.dst (F.app oj.dst s):=by
  refine IQ (fun t e=>a2 t e) (fun t e e2=>a3 t e2 (mem (hE.aQ t e).2)) (fun t e e2=>a1 t e2 (mem (hF.aQ t e).2)) ?_;have kE: ∀ p∈E.wr,p.1<s.H.length:=fun p hp=>(hE.wr p hp).2
  have kF: ∀ p∈F.wr,p.1<s.H.length:=fun p hp=>by
   cases hi:ci.new with
   |none=>rw[← len1 hi];exact (hF.wr p hp).2
   |some n=>
    rw[hi] at hb1;have hlt:p.1<n:=by simpa using List.all_eq_true.1 hb1 p.1 (hF.wf _ (hF.wr p hp).1)
    rw[hE.newn n hi] at hlt;exact hlt
  rw[nH _ _ _ (by rw[gZ];exact kF),nH _ _ _ (by rw[gZ];exact kE),xQ E.wr F.wr s.H (fun p hp q hq e=>ll hm1 (hE.wr p hp).1 (by rw[e];exact hF.wf _ (hF.wr q hq).1))];rcases one with e|e<;>simp[e]
 have e2:=hF.eq;rw[e1] at e2
 rw[e2,hcm];exact si
def CL (P:Program) (ops:Array Oper):List (Nat×Cl)->St->St->Prop
 |[],s,s'=>s=s'
 |(i,c)::rest,s,s'=> ∃ o s1,ops[i]? =some o/\Step P ops c o s s1/\CL P ops rest s1 s'
theorem uv: ∀ (pre:List (Nat×Cl)) (j:Nat) (cj:Cl) (post:List (Nat×Cl)) (s s':St) (oj:Oper),ops[j]? =some oj->(∀ p∈pre,∀ oi,ops[p.1]? =some oi->iZ ops p.2 cj oi oj=true)->CL P ops (pre++(j,cj)::post) s s'->
  ∃ s1,Step P ops cj oj s s1/\CL P ops (pre++post) s1 s'
 |[],j,cj,post,s,s',oj,hj,_,h=>by
  obtain ⟨o,s1,ho,h1,h2⟩:=h;rw[hj] at ho;injection ho with ho;subst ho;exact ⟨s1,h1,h2⟩
 |(i,ci)::pre,j,cj,post,s,s',oj,hj,hc,h=>by
  obtain ⟨o,s1,ho,h1,h2⟩:=h;obtain ⟨t,h3,h4⟩:=uv pre j cj post s1 s' oj hj (fun p hp=>hc p (List.mem_cons_of_mem _ hp)) h2;obtain ⟨t',h5,h6⟩:=swap (hc (i,ci) (by simp) o ho) h1 h3;exact ⟨t',h5,o,t,ho,h6,h4⟩
def mask (acc:List Nat) (o:Oper):Nat:=o.after.toList.foldl (fun m e=>if Region.binds .any e then m|||(2^e.on|||acc.getD e.on 0) else m) 0
def uq:List Oper->List Nat->List Nat
 |[],acc=>acc
 |o::rest,acc=>uq rest (acc++[mask acc o])
theorem JM {acc:List Nat} {o:Oper} {k:Nat} (h:(mask acc o).testBit k=true): ∃ e∈o.after,Region.binds .any e=true/\(k=e.on\/(acc.getD e.on 0).testBit k=true):=by
 have key: ∀ (l:List Edge) (m:Nat),(l.foldl (fun m e=>if Region.binds .any e then m|||(2^e.on|||acc.getD e.on 0) else m) m).testBit k=true->m.testBit k=true\/ ∃ e∈l,Region.binds .any e=true/\(k=e.on\/(acc.getD e.on 0).testBit k=true):=by
  intro l
  induction l with
  |nil=>intro m h;exact .inl h
  |cons e l ih=>
   intro m h;rw[List.foldl_cons] at h
   rcases ih _ h with h1|⟨e',he',h2⟩
   ·by_cases hb:Region.binds .any e=true
    ·rw[if_pos hb] at h1
     rw[Nat.testBit_or,Nat.testBit_or,Bool.or_eq_true,Bool.or_eq_true] at h1;rcases h1 with h1|h1|h1
     ·exact .inl h1
     ·rw[Nat.testBit_two_pow] at h1
      exact .inr ⟨e,by simp,hb,.inl (by simpa using (of_decide_eq_true h1).symm)⟩
     ·exact .inr ⟨e,by simp,hb,.inr h1⟩
    ·rw[if_neg hb] at h1
     exact .inl h1
   ·exact .inr ⟨e',by simp[he'],h2⟩
 rcases key _ 0 h with h1|⟨e,he,h2⟩
 ·simp at h1
 ·exact ⟨e,Array.mem_toList_iff.1 he,h2⟩
theorem Az: ∀ (l:List Oper) (acc:List Nat) (j:Nat),(j<acc.length->(uq l acc)[j]? =acc[j]?)/\(∀ o,l[j-acc.length]? =some o->acc.length<=j-> ∃ acc',(uq l acc)[j]? =some (mask acc' o)/\acc'.length=j/\ ∀ i,i<j->(uq l acc)[i]? =acc'[i]?)
 |[],acc,j=>⟨fun _=>rfl,fun o h=>by simp at h⟩
 |p::rest,acc,j=>by
  have ih:=fun j=>Az rest (acc++[mask acc p]) j
  refine ⟨fun hj=> ?_,fun o h hj=> ?_⟩
  ·simp only[uq]
   rw[(ih j).1 (by simp;omega),List.getElem?_append_left hj]
  ·simp only[uq]
   rcases Nat.eq_or_lt_of_le hj with e|hlt
   ·rw[show j-acc.length=0 by omega] at h
    have hp:p=o:=by simpa using h
    subst hp;refine ⟨acc,?_,e,fun i hi=> ?_⟩
    ·rw[(ih j).1 (by simp;omega),← e];simp
    ·rw[(ih i).1 (by simp;omega),List.getElem?_append_left (by omega)]
   ·have h':rest[j-(acc++[mask acc p]).length]? =some o:=by
     rw[show j-acc.length=(j-(acc.length+1))+1 by omega,List.getElem?_cons_succ] at h;simpa using h
    exact (ih j).2 o h' (by simp;omega)
theorem ur {l:List Oper} {listed:Nat->Bool} (hcl: ∀ j o,l[j]? =some o->listed j=true-> ∀ e∈o.after,Region.binds .any e=true->listed e.on=true):
  ∀ (j:Nat) (o:Oper),l[j]? =some o->(∀ e∈o.after,Region.binds .any e=true->listed e.on=true)-> ∀ k,((uq l []).getD j 0).testBit k=true->listed k=true:=by
 intro j
 induction j using Nat.strongRecOn with
 |_ j ih=>
  intro o ho he k hk;obtain ⟨acc',h1,h2,h3⟩:=(Az l [] j).2 o (by simpa using ho) (by simp);rw[List.getD_eq_getElem?_getD,h1] at hk
  obtain ⟨e,hm,hb,hh⟩:=JM (by simpa using hk);rcases hh with rfl|hh
  ·exact he e hm hb
  ·have hon:listed e.on=true:=he e hm hb
   rcases Nat.lt_or_ge e.on j with hlt|hge
   ·have hl:e.on<l.length:=by
     have:=(List.getElem?_eq_some_iff.1 ho).1;omega
    have:=h3 e.on hlt;refine ih e.on hlt l[e.on] (List.getElem?_eq_getElem hl) (fun e' he' hb'=>hcl e.on _ (List.getElem?_eq_getElem hl) hon e' he' hb') k ?_;rw[List.getD_eq_getElem?_getD,this,← List.getD_eq_getElem?_getD];exact hh
   ·rw[List.getD_eq_getElem?_getD,List.getElem?_eq_none (by omega)] at hh
    simp at hh
def oB (ops:Array Oper) (cl:List Cl):Bool:=
 decide (cl.length=ops.size)&&(List.range ops.size).all fun j=>((ops.toList.getD j default).after.toList.all fun e=> !Region.binds .any e||decide (e.on<j))&&
  (List.range j).all fun i=>((uq ops.toList []).getD j 0).testBit i||iZ ops (cl.getD i .q0) (cl.getD j .q0) (ops.toList.getD i default) (ops.toList.getD j default)
def mP (P:Program) (ops:Array Oper):List Oper->St->List Cl->(St->Prop)->Prop
 |[],s,acc,K=>oB ops acc.reverse=true/\K s
 |o::rest,s,acc,K=>qJ P ops o s fun c s'=>mP P ops rest s' (c::acc) K
def Tj (P:Program) (ops:Array Oper) (s:St) (K:St->Prop):Prop:=mP P ops ops.toList s [] K
theorem wM {K:St->Prop}: ∀ (l:List Oper) (k:Nat) (s:St) (acc:List Cl),(∀ j,l[j]? =ops[k+j]?)->acc.length=k->mP P ops l s acc K-> ∃ (cl:List Cl) (s':St),cl.length=k+l.length/\cl.take k=acc.reverse/\oB ops cl=true/\K s'/\CL P ops ((List.range' k l.length).map fun i=>(i,cl.getD i .q0)) s s'
 |[],k,s,acc,_,hk,h=>⟨acc.reverse,s,by simpa using hk,by rw[List.take_of_length_le (by simp[hk])],h.1,h.2,rfl⟩
 |o::rest,k,s,acc,hl,hk,h=>by
  obtain ⟨c,s1,h1,h2⟩:=Is h;obtain ⟨cl,s',e1,e2,e3,e4,e5⟩:=wM rest (k+1) s1 (c::acc) (fun j=>by rw[show k+1+j=k+(j+1) by omega,← hl];simp) (by simp[hk]) h2;have hc:cl.getD k .q0=c:=by
   have:(cl.take (k+1))[k]? =some c:=by rw[e2];simp[hk]
   rw[List.getElem?_take_of_lt (by omega)] at this;rw[List.getD_eq_getElem?_getD,this];rfl
  refine ⟨cl,s',by simp[e1];omega,?_,e3,e4,?_⟩
  ·have:(cl.take (k+1)).take k=acc.reverse:=by rw[e2,List.reverse_cons,List.take_append_of_le_length (by simp[hk]),List.take_of_length_le (by simp[hk])]
   rwa [List.take_take,Nat.min_eq_left (by omega)] at this
  ·simp only[List.length_cons,List.range'_succ,List.map_cons]
   refine ⟨o,s1,by simpa using (hl 0).symm,by rw[hc];exact h1,e5⟩
theorem min_mem: ∀ (l:List (Nat×Cl)),l≠[]-> ∃ p∈l,∀ q∈l,p.1<=q.1
 |[],h=>absurd rfl h
 |[p],_=>⟨p,by simp,fun q hq=>by rw[List.mem_singleton.1 hq];exact Nat.le_refl _⟩
 |p::q::l,_=>by
  obtain ⟨m,h1,h2⟩:=min_mem (q::l) (by simp);rcases Nat.le_total p.1 m.1 with h|h
  ·exact ⟨p,by simp,fun x hx=>by
    rcases List.mem_cons.1 hx with rfl|hx
    ·exact Nat.le_refl _
    ·exact Nat.le_trans h (h2 x hx)⟩
  ·exact ⟨m,List.mem_cons_of_mem _ h1,fun x hx=>by
    rcases List.mem_cons.1 hx with rfl|hx
    ·exact h
    ·exact h2 x hx⟩
def rel (ops:Array Oper) (p q:Nat×Cl):Bool:=((uq ops.toList []).getD q.1 0).testBit p.1||iZ ops p.2 q.2 (ops.toList.getD p.1 default) (ops.toList.getD q.1 default)
def oQ (ops:Array Oper):Bool:=(List.range ops.size).all fun j=>(ops.toList.getD j default).after.toList.all fun e=> !Region.binds .any e||decide (e.on<j)
theorem zf {j:Nat} {oj:Oper} (hj:ops[j]? =some oj):ops.toList.getD j default=oj:=by simp[List.getD_eq_getElem?_getD,hj]
theorem Jg (h:oQ ops=true) {j:Nat} {o:Oper} (ho:ops[j]? =some o): ∀ e∈o.after,Region.binds .any e=true->e.on<j:=fun e he hb=>by
 have:=List.all_eq_true.1 (List.all_eq_true.1 h j (List.mem_range.2 (Array.getElem?_eq_some_iff.1 ho).1)) e (by rw[zf ho];exact Array.mem_toList_iff.2 he);rw[hb] at this
 simpa using this
structure Ag (ops:Array Oper) (R:List Nat) (listed:Array Bool):Prop where
 nodup:R.Nodup
 mem: ∀ i,i∈R↔i<ops.size/\listed.getD i true=false
 size:listed.size=ops.size
 cls: ∀ j o,ops.toList[j]? =some o->listed.getD j false=true-> ∀ e∈o.after,Region.binds .any e=true->listed.getD e.on false=true
theorem Ag.out {R:List Nat} {listed:Array Bool} (h:Ag ops R listed) {i:Nat} (hi:i<ops.size) (hn:i∉R):listed.getD i false=true:=by
 have h2:i<listed.size:=by rw[h.size];exact hi
 cases hx:listed.getD i true with
 |false=>exact absurd ((h.mem i).2 ⟨hi,hx⟩) hn
 |true=>simp[Array.getD,h2] at hx⊢;exact hx
theorem Ag.ready {R:List Nat} {listed:Array Bool} (h:Ag ops R listed) (he:oQ ops=true) (hne:R≠[]):Region.ready .any ops listed≠[]:=by
 intro hnil;obtain ⟨p,hp,hmin⟩:=min_mem (R.map fun i=>(i,Cl.q0)) (by simpa using hne);obtain ⟨i,hi,rfl⟩:=List.mem_map.1 hp;obtain ⟨hi1,hi2⟩:=(h.mem i).1 hi;have:i∈Region.ready .any ops listed:=mem_ready.2 ⟨hi2,ops[i],Array.getElem?_eq_getElem hi1,fun e hem hb=>by
  have h4:=Jg he (Array.getElem?_eq_getElem hi1) e hem hb;refine h.out (by omega) (fun hm=> ?_);have:=hmin (e.on,Cl.q0) (List.mem_map.2 ⟨_,hm,rfl⟩);simp only at this
  omega⟩
 rw[hnil] at this;cases this
theorem Ag.next {A B:List Nat} {i:Nat} {listed:Array Bool} {o:Oper} (h:Ag ops (A++i::B) listed) (ho:ops[i]? =some o) (hr: ∀ e∈o.after,Region.binds .any e=true->listed.getD e.on false=true):Ag ops (A++B) (listed.setIfInBounds i true):=by
 have hi1:i<ops.size:=(Array.getElem?_eq_some_iff.1 ho).1;have hnd:=h.nodup;rw[List.nodup_append] at hnd
 obtain ⟨n1,n2,n3⟩:=hnd;obtain ⟨n4,n5⟩:=List.nodup_cons.1 n2;have hnot:i∉A++B:=fun hm=>by
  rcases List.mem_append.1 hm with hm|hm
  ·exact n3 i hm i (by simp) rfl
  ·exact n4 hm
 refine ⟨List.nodup_append.2 ⟨n1,n5,fun a ha b hb=>n3 a ha b (List.mem_cons_of_mem _ hb)⟩,fun j=> ?_,by simpa using h.size,fun j o' ho' hj e he hb=> ?_⟩
 ·by_cases e:i=j
  ·subst e
   constructor
   ·intro hm;exact absurd hm hnot
   ·rintro ⟨_,hf⟩
    have:i<listed.size:=by rw[h.size];exact hi1
    simp[Array.getD,this] at hf
  ·rw[getD_set_ne true e,← h.mem j]
   constructor
   ·intro hm;simp at hm⊢;rcases hm with h|h<;>simp[h]
   ·intro hm;simp at hm⊢;rcases hm with h|h|h
    ·exact .inl h
    ·exact absurd h.symm e
    ·exact .inr h
 ·by_cases e2:i=j
  ·subst e2
   have:o'=o:=by rw[Array.getElem?_toList,ho] at ho';injection ho' with h;exact h.symm
   subst this;exact getD_set_true (hr e he hb)
  ·rw[getD_set_ne false e2] at hj
   exact getD_set_true (h.cls j o' ho' hj e he hb)
theorem ahead {pre:List (Nat×Cl)} {i:Nat} {ci:Cl} {o:Oper} {R:List Nat} {listed:Array Bool} (h:Ag ops R listed) (ho:ops[i]? =some o) (hr: ∀ e∈o.after,Region.binds .any e=true->listed.getD e.on false=true) (hm: ∀ p∈pre,p.1∈R) (hp: ∀ p∈pre,rel ops p (i,ci)=true):
  ∀ p∈pre,∀ oi,ops[p.1]? =some oi->iZ ops p.2 ci oi o=true:=fun p hpm oi hoi=>by
 have hcr:=hp p hpm;unfold rel at hcr
 rw[Bool.or_eq_true] at hcr;rcases hcr with hcr|hcr
 ·exfalso
  have hkl:=ur (l:=ops.toList) (listed:=fun j=>listed.getD j false) h.cls i o (by simpa using ho) hr p.1 hcr;have hkr:=(h.mem p.1).1 (hm p hpm);have h2:p.1<listed.size:=by rw[h.size];exact hkr.1
  have hk2:=hkr.2;simp only[Array.getD,h2,dite_true] at hkl hk2
  rw[hk2] at hkl;cases hkl
 ·simp only[zf hoi,zf ho] at hcr
  exact hcr
theorem vE {N n0:Nat} {w0:World} {κ0:Nat->BK} {ρ0:Nat->Nat} (hdst: ∀ o∈ops.toList,mC N o=true) (he:oQ ops=true) {Q:Exit->Act->World->Prop} {sE:St} (hQ: ∀ a w κ ρ,In N n0 w0 κ0 ρ0 sE a w κ ρ->Q .normal a w):
  ∀ (fuel:Nat) (R:List (Nat×Cl)) (listed:Array Bool) (s:St) (a:Act) (w:World) (κ:Nat->BK) (ρ:Nat->Nat),R.length=fuel->Ag ops (R.map Prod.fst) listed->R.Pairwise (fun p q=>rel ops p q=true)->CL P ops R s sE->In N n0 w0 κ0 ρ0 s a w κ ρ->wpAny P .any ops Q fuel listed a w:=by
 intro fuel
 induction fuel with
 |zero=>
  intro R listed s a w κ ρ hl hL hp hrun hI;have:R=[]:=List.eq_nil_of_length_eq_zero hl;subst this;refine ⟨?_,hQ a w κ ρ (by rw[← show s=sE from hrun];exact hI)⟩;apply List.eq_nil_iff_forall_not_mem.2;intro i hi;obtain ⟨h1,o,ho,_⟩:=mem_ready.1 hi;have:=(hL.mem i).2 ⟨(Array.getElem?_eq_some_iff.1 ho).1,h1⟩;cases this
 |succ fuel ih=>
  intro R listed s a w κ ρ hl hL hp hrun hI;constructor
  ·intro hnil
   exact absurd hnil (hL.ready he (fun e=>by
    have:=congrArg List.length e;rw[List.length_map,hl] at this
    cases this))
  ·intro i hi
   obtain ⟨h1,o,ho,hready⟩:=mem_ready.1 hi;have hi1:i<ops.size:=(Array.getElem?_eq_some_iff.1 ho).1;obtain ⟨⟨i',ci⟩,hmem,rfl⟩:=List.mem_map.1 ((hL.mem i).2 ⟨hi1,h1⟩);simp only at ho hi1 h1 hready;obtain ⟨pre,post,rfl⟩:=List.append_of_mem hmem;rw[List.pairwise_append] at hp;obtain ⟨hp1,hp2,hp3⟩:=hp;have hp4:=List.pairwise_cons.1 hp2;obtain ⟨s1,hst,hrun1⟩:=uv _ i' _ _ s sE o ho (ahead hL ho hready (fun p hpm=>by simp only[List.map_append,List.mem_append];exact .inl (List.mem_map_of_mem hpm)) (fun p hpm=>hp3 p hpm _ (by simp))) hrun;unfold wpOp;simp only[ho];refine nQ (hdst o (Array.mem_toList_iff.2 (Array.mem_of_getElem? ho))) hst hI fun c s2 a2 w2 κ2 ρ2 hk2 hI2=> ?_
   obtain ⟨_,rfl⟩:=hk2;rw[List.map_append,List.map_cons] at hL;exact ih (pre++post) (listed.setIfInBounds i' true) s2 a2 w2 κ2 ρ2 (by simp at hl⊢;omega) (by rw[List.map_append];exact hL.next ho hready) (List.pairwise_append.2 ⟨hp1,hp4.2,fun x hx y hy=>hp3 x hx y (List.mem_cons_of_mem _ hy)⟩) hrun1 hI2
theorem Ag.start:Ag ops (List.range ops.size) (Array.replicate ops.size false):=by
 have hs0: ∀ i (d:Bool),i<ops.size->(Array.replicate ops.size false).getD i d=false:=fun i d hi=>by simp[Array.getD,hi]
 refine ⟨List.nodup_range,fun i=> ?_,by simp,fun j o ho hj=> ?_⟩
 ·rw[List.mem_range]
  exact ⟨fun h=>⟨h,hs0 i true h⟩,fun h=>h.1⟩
 ·exfalso
  rcases Nat.lt_or_ge j ops.size with h1|h1
  ·rw[hs0 j false h1] at hj;cases hj
  ·simp[Array.getD,show ¬ j<ops.size by omega] at hj
theorem In.drew {N n0:Nat} {w0 w:World} {κ0 κ:Nat->BK} {ρ0 ρ:Nat->Nat} {a:Act} (hI:In N n0 w0 κ0 ρ0 s a w κ ρ):In N n0 w0 κ0 ρ0 s a { w with drawn:=w.drawn+1 } κ ρ:=by
 obtain ⟨h1,h2,h3,h4,h5⟩:=hI;have m:Mv (fun _=>False) s.H.length w κ ρ w.drew κ ρ:=ke _ _ _ _;exact ⟨h1.mv m (fun _ h=>h),h2.trans m.fr,h3,h4,h5⟩
theorem F5 (hm:P.follows .mixedOrders=true):oH P (Tj P):=by
 intro id ops s K h N n0 w0 κ0 ρ0 a w κ ρ hI hdst Q hQ;rw[List.all_eq_true] at hdst
 refine wp_region_any hm ?_;obtain ⟨cl,sE,hlen,_,hcrit,hK,hrun⟩:=wM ops.toList 0 s [] (fun j=>by simp) rfl h;simp only[oB,Bool.and_eq_true,decide_eq_true_eq,List.all_eq_true,List.mem_range] at hcrit
 obtain ⟨hcl,hcrit⟩:=hcrit;rw[← List.range_eq_range',show ops.toList.length=ops.size by simp] at hrun;refine vE hdst ?_ (fun a w κ ρ hI=>hQ sE a w κ ρ hK hI) ops.size _ (Array.replicate ops.size false) s a { w with drawn:=w.drawn+1 } κ ρ (by simp) ?_ ?_ hrun hI.drew
 ·unfold oQ
  rw[List.all_eq_true];intro j hj;rw[List.all_eq_true];exact (hcrit j (List.mem_range.1 hj)).1
 ·rw[List.map_map]
  have:(List.range ops.size).map (Prod.fst ∘ fun i=>(i,cl.getD i .q0))=List.range ops.size:=List.map_id' _;rw[this];exact Ag.start
 ·rw[List.pairwise_map]
  refine List.Pairwise.imp_of_mem ?_ List.pairwise_lt_range;intro p q hp hq hlt;have:=(hcrit q (List.mem_range.1 hq)).2 p hlt;unfold rel;exact this
end
def tp (n b:Nat):Nat:=if b=n then n+1 else if b=n+1 then n else b
theorem K0 (n b:Nat):tp n (tp n b)=b:=by unfold tp;(repeat' split)<;>omega
theorem Rz {n b m:Nat} (h:n+1<m) (hb:b<m):tp n b<m:=by unfold tp;(repeat' split)<;>omega
theorem P0 {n b:Nat} (h:b<n):tp n b=b:=by unfold tp;rw[if_neg (by omega),if_neg (by omega)]
def Loc.rn (n:Nat):Loc->Loc
 | .slot i=> .slot i
 | .cell b i=> .cell (tp n b) i
def BK.rn (n:Nat):BK->BK
 | .lock m=> .lock m
 | .bg m l=> .bg m (l.rn n)
 | .wr b=> .wr (tp n b)
theorem BK.MZ {n:Nat} {k:BK} {m:Nat}:(k.rn n).fits m↔k.fits m:=by cases k<;>exact Iff.rfl
def sL {α:Type _} (n:Nat) (H:List (Option α)):List (Option α):=(List.range H.length).map fun b=>(H[tp n b]?).getD none
theorem H8 {α:Type _} (n:Nat) (H:List (Option α)):(sL n H).length=H.length:=by simp[sL]
theorem rO {α:Type _} {n:Nat} {H:List (Option α)} {b:Nat} {x:α} (h:(sL n H)[b]? =some (some x)):H[tp n b]? =some (some x):=by
 unfold sL at h;rw[List.getElem?_map] at h;obtain ⟨c,hc,e⟩:=Option.map_eq_some_iff.1 h;obtain ⟨hc1,hc2⟩:=List.getElem?_eq_some_iff.1 hc;rw[List.getElem_range] at hc2;subst hc2;cases hx:H[tp n b]? with
 |none=>rw[hx] at e;cases e
 |some y=>rw[hx] at e;simpa using e
def St.rn (n:Nat) (s:St):St:=⟨fun i=>(s.sl i).cW (tp n),(sL n s.H).map (cV (tp n))⟩
theorem DZ (n:Nat) (s:St):(s.rn n).H.length=s.H.length:=by simp[St.rn,H8]
section
variable {w:World} {κ:Nat->BK} {ρ:Nat->Nat} {n:Nat}
theorem tG:fu w κ w fun g=>(κ g).rn n:=dQ fun g m h=>BK.MZ.2 h
theorem M1 (l:Loc):yd w κ w (fun g=>(κ g).rn n) l (l.rn n):=⟨tG,fun g m _ h=>⟨by simp only[h,BK.rn],rfl⟩⟩
theorem bx.rn {m:Nat} {l:Loc} {x:aa} {v:Value} (hx:x.ok m=true) (h:bx w κ ρ l x v):bx w (fun g=>(κ g).rn n) (fun b=>ρ (tp n b)) (l.rn n) (x.cW (tp n)) v:=
 bx.cW (n:=m) (σ:=tp n) (ρ':=fun b=>ρ (tp n b)) (tG (n:=n)) (fun b _=>congrArg ρ (K0 n b)) hx (fun _ _ _ _ _=>M1 l) h
theorem dN.rn {m:Nat} {l:Loc} {x:bj} {v:Value} (hx:x.ok m=true) (h:dN w κ ρ l x v):dN w (fun g=>(κ g).rn n) (fun b=>ρ (tp n b)) (l.rn n) (x.cW (tp n)) v:=by
 cases x with
 |c x=>exact ⟨by rw[aa.jQ];exact h.1,h.2.rn hx⟩
 |agg cs=>
  obtain ⟨vs,rfl,hs,hi⟩:=h;refine ⟨vs,rfl,by simpa using hs,fun i h h'=> ?_⟩;have hi2:i<cs.length:=by simpa using h
  rw[List.getElem_map,aa.jQ];exact ⟨(hi i hi2 h').1,(hi i hi2 h').2.rn (List.all_eq_true.1 hx _ (List.getElem_mem hi2))⟩
theorem bM.rn {m:Nat} {l:Loc} {x:ad} {v:Value} (hx:x.ok m=true) (h:bM w κ ρ l x v):bM w (fun g=>(κ g).rn n) (fun b=>ρ (tp n b)) (l.rn n) (x.cW (tp n)) v:=by
 cases x with
 |c x=>exact bx.rn (x:=x) hx h
 |agg cs=>exact dN.rn (x:= .agg cs) hx h
 |cC ts=>
  obtain ⟨vs,rfl,hs,hi⟩:=h;refine ⟨vs,rfl,by simpa using hs,fun i h h'=> ?_⟩;have hi2:i<ts.length:=by simpa using h
  rw[List.getElem_map];exact (hi i hi2 h').rn (List.all_eq_true.1 hx _ (List.getElem_mem hi2))
theorem In.rn {N n0:Nat} {w0:World} {κ0:Nat->BK} {ρ0:Nat->Nat} {s:St} {a:Act} (h0:n0<=n) (hn:n+1<s.H.length) (hI:In N n0 w0 κ0 ρ0 s a w κ ρ):In N n0 w0 κ0 ρ0 (s.rn n) a w (fun g=>(κ g).rn n) (fun b=>ρ (tp n b)):=by
 obtain ⟨hR,hfr,hrho,hlen,hsz⟩:=hI;have hlt: ∀ b,b<s.H.length->tp n b<s.H.length:=fun b hb=>Rz hn hb
 refine ⟨⟨hR.defers,fun i hi=>bM.rn (l:= .slot i) (hR.ok i) (hR.slot i hi),fun i hi=> ?_,fun i=> ?_,⟨fun b cs hb=> ?_,fun b cs hb x hx=> ?_⟩⟩,⟨hfr.os,hfr.tape,hfr.output,hfr.size,fun g m hg hl=> ?_,hfr.grow.trans tG⟩,fun b hb=> ?_,by rw[DZ];exact hlen,hsz⟩
 ·show (s.sl i).cW (tp n)=_
  rw[hR.out i hi];rfl
 ·rw[DZ]
  exact ad.i6 hlt (hR.ok i)
 ·simp only[St.rn,List.getElem?_map] at hb
  obtain ⟨x,hx,e⟩:=Option.map_eq_some_iff.1 hb;cases x with
  |none=>cases e
  |some ds=>
   injection e with e;subst e;obtain ⟨ho,hob⟩:=hR.heap.dk _ ds (rO hx);refine ⟨by simp only[ho,BK.rn,K0],?_⟩;rcases hob with ⟨c,e,k1,k2,k3⟩|hM
   rotate_left
   ·exact .inr ((iH.cW hM).mv tG rfl)
   refine .inl ⟨c,e,k1,by simpa using k2,fun i hi hi'=> ?_⟩;have hi2:i<ds.length:=by simpa using hi
   rw[List.getElem_map];have:=bx.rn (n:=n) (hR.heap.ok _ ds (rO hx) _ (List.getElem_mem hi2)) (k3 i hi2 hi');simp only[Loc.rn,K0] at this;exact this
 ·rw[DZ]
  simp only[St.rn,List.getElem?_map] at hb;obtain ⟨y,hy,e⟩:=Option.map_eq_some_iff.1 hb;cases y with
  |none=>cases e
  |some ds=>
   injection e with e;subst e;obtain ⟨z,hz,rfl⟩:=List.mem_map.1 hx;exact aa.i6 hlt (hR.heap.ok _ ds (rO hy) z hz)
 ·obtain ⟨h1,h2⟩:=hfr.lock g m hg hl
  exact ⟨by simp only[h1,BK.rn],h2⟩
 ·show ρ (tp n b)=ρ0 b
  rw[P0 (by omega)];exact hrho b hb
end
section
variable {P:Program} {ops:Array Oper}
theorem yn: ∀ {X Y:List (Nat×Cl)} {s m s':St},CL P ops X s m->CL P ops Y m s'->CL P ops (X++Y) s s'
 |[],Y,s,m,s',h1,h2=>by rw[show s=m from h1];exact h2
 |(i,c)::X,Y,s,m,s',h1,h2=>by
  obtain ⟨o,s1,ho,k1,k2⟩:=h1;exact ⟨o,s1,ho,k1,yn k2 h2⟩
def Fx (ops:Array Oper) (i a b:Nat):Bool:=((uq ops.toList []).getD i 0).testBit a||((uq ops.toList []).getD i 0).testBit b
structure Qy (ops:Array Oper) (Rp:List (Nat×Cl)) (A B A' B':Nat×Cl) (R1 R2:List (Nat×Cl)):Prop where
 edges:oQ ops=true
 nodup:((Rp++A::B::R1).map Prod.fst).Nodup
 mem: ∀ i,i∈(Rp++A::B::R1).map Prod.fst↔i<ops.size
 eA:A'.1=A.1
 eB:B'.1=B.1
 e2:R2.map Prod.fst=R1.map Prod.fst
 p1:(Rp++B::R1).Pairwise fun p q=>rel ops p q=true
 p2:(Rp++A'::R2).Pairwise fun p q=>rel ops p q=true
 pA: ∀ p∈Rp,rel ops p A=true
 pB: ∀ p∈Rp,rel ops p B'=true
 dep: ∀ q∈R1,Fx ops q.1 A.1 B.1=true
def Tl (P:Program) (ops:Array Oper) (s:St) (K:St->Prop):Prop:=
 ∃ (Rp:List (Nat×Cl)) (A B A' B':Nat×Cl) (R1 R2:List (Nat×Cl)) (sp sE sE2:St) (n:Nat),Qy ops Rp A B A' B' R1 R2/\CL P ops Rp s sp/\CL P ops (A::B::R1) sp sE/\CL P ops (B'::A'::R2) sp sE2/\
  K sE/\K (sE2.rn n)/\s.H.length<=n/\n+1<sE2.H.length
theorem Nl {N n0:Nat} {w0:World} {κ0:Nat->BK} {ρ0:Nat->Nat} (hdst: ∀ o∈ops.toList,mC N o=true) {A B A' B':Nat×Cl} {R1 R2:List (Nat×Cl)} {Q:Exit->Act->World->Prop} {sp sE sE2:St} (hQ1: ∀ a w κ ρ,In N n0 w0 κ0 ρ0 sE a w κ ρ->Q .normal a w) (hQ2: ∀ a w κ ρ,In N n0 w0 κ0 ρ0 sE2 a w κ ρ->Q .normal a w)
  (hr1:CL P ops (A::B::R1) sp sE) (hr2:CL P ops (B'::A'::R2) sp sE2) (he:oQ ops=true) (eA:A'.1=A.1) (eB:B'.1=B.1) (e2:R2.map Prod.fst=R1.map Prod.fst) (dep: ∀ q∈R1,Fx ops q.1 A.1 B.1=true):
  ∀ (fuel:Nat) (Rp:List (Nat×Cl)) (listed:Array Bool) (s:St) (a:Act) (w:World) (κ:Nat->BK) (ρ:Nat->Nat),Rp.length+2+R1.length=fuel->Ag ops ((Rp++A::B::R1).map Prod.fst) listed->
   (Rp++B::R1).Pairwise (fun p q=>rel ops p q=true)->(Rp++A'::R2).Pairwise (fun p q=>rel ops p q=true)->(∀ p∈Rp,rel ops p A=true)->(∀ p∈Rp,rel ops p B'=true)->
   CL P ops Rp s sp->In N n0 w0 κ0 ρ0 s a w κ ρ->wpAny P .any ops Q fuel listed a w:=by
 have l2:R2.length=R1.length:=by simpa using congrArg List.length e2
 intro fuel
 induction fuel with
 |zero=>intro Rp listed s a w κ ρ hl;omega
 |succ fuel ih=>
  intro Rp listed s a w κ ρ hl hL hp1 hp2 hA hB hrun hI;constructor
  ·intro hnil
   exact absurd hnil (hL.ready he (by simp))
  ·intro i hi
   obtain ⟨h1,o,ho,hready⟩:=mem_ready.1 hi;have hi1:i<ops.size:=(Array.getElem?_eq_some_iff.1 ho).1;have hm:=(hL.mem i).2 ⟨hi1,h1⟩;rw[List.map_append,List.mem_append,List.map_cons,List.map_cons,List.mem_cons,List.mem_cons] at hm;have hRp: ∀ p∈Rp,p.1∈(Rp++A::B::R1).map Prod.fst:=fun p hpm=>by simp only[List.map_append,List.mem_append];exact .inl (List.mem_map_of_mem hpm)
   have go: ∀ {s1:St} {X:Nat->Array Bool->Act->World->Prop},(∃ c,Step P ops c o s s1)->(∀ c a2 w2 κ2 ρ2,In N n0 w0 κ0 ρ0 s1 a2 w2 κ2 ρ2->wpAny P .any ops Q fuel (listed.setIfInBounds i true) a2 w2)->wpOp P ops Q i (wpAny P .any ops Q fuel (listed.setIfInBounds i true)) a w:=fun ⟨c,hst⟩ hk=>by
    unfold wpOp;simp only[ho];refine nQ (hdst o (Array.mem_toList_iff.2 (Array.mem_of_getElem? ho))) hst hI fun c s2 a2 w2 κ2 ρ2 hk2 hI2=> ?_
    obtain ⟨_,rfl⟩:=hk2;exact hk c a2 w2 κ2 ρ2 hI2
   rcases hm with hm|rfl|rfl|hm
   ·obtain ⟨⟨i',ci⟩,hmem,rfl⟩:=List.mem_map.1 hm
    obtain ⟨pre,post,rfl⟩:=List.append_of_mem hmem;have hp1':=hp1;have hp2':=hp2;rw[List.append_assoc,List.cons_append] at hp1' hp2';rw[List.pairwise_append] at hp1' hp2';obtain ⟨q1,q2,q3⟩:=hp1';obtain ⟨u1,u2,u3⟩:=hp2';obtain ⟨s1,hst,hrun1⟩:=uv pre i' ci post s sp o ho (ahead hL ho hready (fun p hpm=>hRp p (by simp[hpm])) (fun p hpm=>q3 p hpm _ (by simp))) hrun;refine go (X:=fun _ _ _ _=>True) ⟨_,hst⟩ fun c a2 w2 κ2 ρ2 hI2=> ?_
    have hL2:Ag ops ((pre++post++A::B::R1).map Prod.fst) (listed.setIfInBounds i' true):=by
     have:=hL;simp only[List.map_append,List.map_cons,List.append_assoc,List.cons_append] at this⊢
     exact this.next ho hready
    refine ih (pre++post) _ s1 a2 w2 κ2 ρ2 (by simp at hl⊢;omega) hL2 ?_ ?_ (fun p hpm=>hA p (by simp at hpm⊢;rcases hpm with h|h<;>simp[h])) (fun p hpm=>hB p (by simp at hpm⊢;rcases hpm with h|h<;>simp[h])) hrun1 hI2
    ·rw[List.append_assoc,List.pairwise_append]
     exact ⟨q1,(List.pairwise_cons.1 q2).2,fun x hx y hy=>q3 x hx y (List.mem_cons_of_mem _ hy)⟩
    ·rw[List.append_assoc,List.pairwise_append]
     exact ⟨u1,(List.pairwise_cons.1 u2).2,fun x hx y hy=>u3 x hx y (List.mem_cons_of_mem _ hy)⟩
   ·obtain ⟨s1,hst,hrun1⟩:=uv Rp A.1 A.2 (B::R1) s sE o ho (ahead hL ho hready hRp hA) (yn hrun hr1)
    refine go (X:=fun _ _ _ _=>True) ⟨_,hst⟩ fun c a2 w2 κ2 ρ2 hI2=> ?_
    refine vE hdst he hQ1 fuel (Rp++B::R1) _ s1 a2 w2 κ2 ρ2 (by simp at hl⊢;omega) ?_ hp1 hrun1 hI2;have:=hL;simp only[List.map_append,List.map_cons] at this⊢
    exact this.next ho hready
   ·obtain ⟨s1,hst,hrun1⟩:=uv Rp B'.1 B'.2 (A'::R2) s sE2 o (by rw[eB];exact ho) (fun p hpm oi hoi=>ahead hL ho hready hRp (fun p hpm=>by have:=hB p hpm;unfold rel at this⊢;rw[eB] at this;exact this) p hpm oi hoi) (yn hrun hr2)
    refine go (X:=fun _ _ _ _=>True) ⟨_,hst⟩ fun c a2 w2 κ2 ρ2 hI2=> ?_
    refine vE hdst he hQ2 fuel (Rp++A'::R2) _ s1 a2 w2 κ2 ρ2 (by simp at hl⊢;omega) ?_ hp2 hrun1 hI2;have:=hL;simp only[List.map_append,List.map_cons] at this⊢
    rw[eA,e2];rw[show Rp.map Prod.fst++A.1::B.1::R1.map Prod.fst=(Rp.map Prod.fst++[A.1])++B.1::R1.map Prod.fst by simp] at this;have:=this.next ho hready;simpa using this
   ·exfalso
    obtain ⟨q,hq,rfl⟩:=List.mem_map.1 hm;have hn:=dep q hq;unfold Fx at hn;rw[Bool.or_eq_true] at hn;have hlist:=ur (l:=ops.toList) (listed:=fun j=>listed.getD j false) hL.cls q.1 o (by simpa using ho) hready;have hno: ∀ k,k∈(Rp++A::B::R1).map Prod.fst->listed.getD k false=true->False:=fun k hk hl'=>by
     have hkr:=(hL.mem k).1 hk;have h2:k<listed.size:=by rw[hL.size];exact hkr.1
     have hk2:=hkr.2;simp only[Array.getD,h2,dite_true] at hl' hk2
     rw[hk2] at hl';cases hl'
    rcases hn with hn|hn
    ·exact hno A.1 (by simp) (hlist _ hn)
    ·exact hno B.1 (by simp) (hlist _ hn)
theorem Gd (hm:P.follows .mixedOrders=true):oH P (Tl P):=by
 intro id ops s K h N n0 w0 κ0 ρ0 a w κ ρ hI hdst Q hQ;rw[List.all_eq_true] at hdst
 obtain ⟨Rp,A,B,A',B',R1,R2,sp,sE,sE2,n,hT,r1,r2,r3,k1,k2,hn1,hn2⟩:=h;refine wp_region_any hm ?_;have hI0:n0<=s.H.length:=hI.len;have hsz:Rp.length+2+R1.length=ops.size:=by
  have h1:((Rp++A::B::R1).map Prod.fst).Perm (List.range ops.size):=(List.perm_ext_iff_of_nodup hT.nodup List.nodup_range).2 (fun i=>by rw[hT.mem,List.mem_range]);have:=h1.length_eq;simp at this
  omega
 have hL:Ag ops ((Rp++A::B::R1).map Prod.fst) (Array.replicate ops.size false):=by
  have h0:Ag ops (List.range ops.size) (Array.replicate ops.size false):=Ag.start;exact ⟨hT.nodup,fun i=>by rw[hT.mem,← h0.mem,List.mem_range],h0.size,h0.cls⟩
 exact Nl hdst (fun a w κ ρ hI=>hQ sE a w κ ρ k1 hI) (fun a w κ ρ hI=>hQ _ a w _ _ k2 (hI.rn (Nat.le_trans hI0 hn1) hn2)) r2 r3 hT.edges hT.eA hT.eB hT.e2 hT.dep ops.size Rp _ s a { w with drawn:=w.drawn+1 } κ ρ hsz hL hT.p1 hT.p2 hT.pA hT.pB r1 hI.drew
def R6 (P:Program) (ops:Array Oper) (s:St) (K:St->Prop):Prop:=If P ops s K
def DR (P:Program) (ops:Array Oper) (s:St) (K:St->Prop):Prop:=Tj P ops s K\/Tl P ops s K\/R6 P ops s K
theorem tN (hm:P.follows .mixedOrders=true):oH P (DR P):=by
 intro id ops s K h;rcases h with h|h|h
 ·exact F5 hm id ops s K h
 ·exact Gd hm id ops s K h
 ·exact h id
end
abbrev HB:=List (Option (List aa))
def i64 (n:Int):ad:= .c (.f (.v (.int .i64 n)))
def aB (b:Bool):ad:= .c (.f (.v (.bool b)))
def St.bare (H:HB):St:=⟨fun _=> .c .any,H⟩
def St.of (H:HB):List (Nat×ad)->St
 |[]=>St.bare H
 |(d,x)::l=>(St.of H l).put (some d) x
section
variable {s:St} {H:HB}
theorem Dj {d:Nat} {x:ad} {l:List (Nat×ad)}:(St.of H ((d,x)::l)).ev (.tmp d)=x:=aG _ _ _
theorem AW {d t:Nat} {x:ad} {l:List (Nat×ad)} (h:t≠d):(St.of H ((d,x)::l)).ev (.tmp t)=(St.of H l).ev (.tmp t):=aw _ _ h
theorem Qk {d:Option Tmp} {x:ad}:(s.put d x).H=s.H:=Rm d x
theorem Lp {l:List (Nat×ad)}:(St.of H l).H=H:=by
 induction l with
 |nil=>rfl
 |cons a l ih=>obtain ⟨d,x⟩:=a;exact ih
def St.jm (s:St) (H:HB):St:={ s with H:=H }
theorem J9 {d:Option Tmp} {x:ad}:(s.jm H).put d x=(s.put d x).jm H:=by cases d<;>rfl
end
theorem Ld {n0:Nat} {s:St} {H:HB} {l:List (Nat×ad)} (h0:n0<=s.H.length) (hH:v7 s.H H) (h: ∀ p∈l,ad.Le (s.sl p.1) p.2/\(s.sl p.1= .c .any->p.2= .c .any)):di n0 s (St.of H l):=by
 refine F4 h0 (by rw[Lp];exact hH) (fun i=> ?_) (fun i hi=> ?_)
 ·induction l with
  |nil=>exact .any _
  |cons a l ih=>
   obtain ⟨d,x⟩:=a;by_cases e:i=d
   ·subst e
    have e1:(St.of H ((i,x)::l)).sl i=x:=aG _ _ _;rw[e1];exact (h (i,x) (by simp)).1
   ·have e1:(St.of H ((d,x)::l)).sl i=(St.of H l).sl i:=aw _ _ e
    rw[e1];exact ih fun p hp=>h p (by simp[hp])
 ·induction l with
  |nil=>rfl
  |cons a l ih=>
   obtain ⟨d,x⟩:=a;by_cases e:i=d
   ·subst e
    have e1:(St.of H ((i,x)::l)).sl i=x:=aG _ _ _;rw[e1];exact (h (i,x) (by simp)).2 hi
   ·have e1:(St.of H ((d,x)::l)).sl i=(St.of H l).sl i:=aw _ _ e
    rw[e1];exact ih fun p hp=>h p (by simp[hp])
theorem Nu {n0:Nat} {s:St} {H:HB} {l:List (Nat×ad)} (h0:n0<=H.length) (hH:s.H=H) (h: ∀ p∈l,s.sl p.1=p.2):di n0 s (St.of H l):=by
 refine En (by rw[hH];exact h0) (by rw[Lp,hH]) fun i=> ?_
 induction l with
 |nil=>exact .inr rfl
 |cons a l ih=>
  obtain ⟨d,x⟩:=a;by_cases e:i=d
  ·subst e
   left;show dJ (St.of H l).sl i x i=_
   rw[aG];exact (h (i,x) (by simp)).symm
  ·have e1:(St.of H ((d,x)::l)).sl i=(St.of H l).sl i:=aw _ _ e
   rw[e1];exact ih fun p hp=>h p (by simp[hp])
def C0:Nat->List ad->List (Nat×ad)
 |_,[]=>[]
 |i,x::l=>(i,x)::C0 (i+1) l
theorem Ax: ∀ (l:List ad) (i:Nat) (p:Nat×ad),p∈C0 i l->i<=p.1/\l[p.1-i]? =some p.2
 |[],i,p,h=>by cases h
 |x::l,i,p,h=>by
  rcases List.mem_cons.1 h with rfl|h
  ·simp
  ·obtain ⟨h1,h2⟩:=Ax l (i+1) p h
   refine ⟨by omega,?_⟩;rw[show p.1-i=(p.1-(i+1))+1 by omega,List.getElem?_cons_succ];exact h2
theorem pk {fn:Func} {args:List ad} {H:HB}:di H.length (entry fn args H) (St.of H (C0 0 args)):=by
 refine Nu (Nat.le_refl _) rfl fun p hp=> ?_
 obtain ⟨_,h⟩:=Ax args 0 p hp;show args.getD p.1 _=_
 rw[List.getD_eq_getElem?_getD];rw[Nat.sub_zero] at h;rw[h];rfl
theorem Rk {P:Program} (hm:P.follows .mixedOrders=true) {f:FuncId} {fn:Func} {c:Code} {args:List ad} {H H':HB} {r:ad} (hf:P.funcs[f]? =some fn) (hb:fn.body=some c) (hn:(fn.name== "runtime.NumGoroutine")=false) (hca:args.length<=fn.ntmps) (hcode:codeOk fn.ntmps c=true)
  (hflat:Flat r=true) (hrok:r.ok H'.length=true) (hlen:H.length<=H'.length) (hHok:H'.all (okB H'.length)=true) (h:W P (DR P) H.length c (St.of H (C0 0 args)) (Nx P fn r H')):Ok P f args H r H':=
 MK (tN hm) hf hb hn hca hcode hflat hrok hlen hHok pk h
theorem Pv {P:Program} (hm:P.follows .mixedOrders=true) {f:FuncId} {fn:Func} {c:Code} {args:List ad} {r:ad} (hf:P.funcs[f]? =some fn) (hb:fn.body=some c) (hn:(fn.name== "runtime.NumGoroutine")=false) (hca:args.length<=fn.ntmps) (hcode:codeOk fn.ntmps c=true)
  (hflat:Flat r=true) (hrok:r.ok 0=true) (h:W P (DR P) 0 c (St.of [] (C0 0 args)) (CJ P fn r)):Ok P f args [] r []:=
 JZ (tN hm) hf hb hn hca hcode hflat hrok (pk (H:=[])) h
section
variable {P:Program} {D:Array Oper->St->(St->Prop)->Prop} {n0:Nat} {s:St} {K:bI->St->Prop}
def wA (P:Program) (D:Array Oper->St->(St->Prop)->Prop) (n0:Nat) (b:Code) (K:bI->St->Prop):bI->St->Prop:=fun e s'=>match e with
 | .normal=>W P D n0 b s' K\/(∃ s2,di n0 s' s2/\W P D n0 b s2 K)\/ ∃ (α:Type) (F:α->St),Ap n0 s' F/\ ∀ x,W P D n0 b (F x) K
 | .exit i=>K (.exit i) s'
 | .ret=>K .ret s'
def lR (id:Nat) (K:bI->St->Prop):bI->St->Prop:=fun e s'=>match e with
 | .normal=>K .normal s'
 | .exit j=>if j=id then K .normal s' else K (.exit j) s'
 | .ret=>K .ret s'
def Ra (n0:Nat) {α:Type} (I:α->St->Prop) (μ:α->Nat) (x:α) (K:bI->St->Prop):bI->St->Prop:=fun e s'=>match e with
 | .normal=> ∃ y s2,di n0 s' s2/\I y s2/\μ y<μ x
 | .exit i=>K (.exit i) s'
 | .ret=>K .ret s'
theorem ay {a b:Code} (h:W P D n0 a s (wA P D n0 b K)):W P D n0 (.seq a b) s K:=h
theorem nG {b:Code} (h:W P D n0 b s K):wA P D n0 b K .normal s:= .inl h
theorem jR {b:Code} (s2:St) (hw:di n0 s s2) (h:W P D n0 b s2 K):wA P D n0 b K .normal s:= .inr (.inl ⟨s2,hw,h⟩)
theorem D1 {b:Code} {α:Type} (F:α->St) (hw:Ap n0 s F) (h: ∀ x,W P D n0 b (F x) K):wA P D n0 b K .normal s:= .inr (.inr ⟨α,F,hw,h⟩)
theorem rI {b:Code} {i:Nat} (h:K (.exit i) s):wA P D n0 b K (.exit i) s:=h
theorem Ks {b:Code} (h:K .ret s):wA P D n0 b K .ret s:=h
theorem aD {id:Nat} {c:Code} (h:W P D n0 c s (lR id K)):W P D n0 (.block id c) s K:=h
theorem AD {id:Nat} (h:K .normal s):lR id K .normal s:=h
theorem kL {id j:Nat} (e:j=id) (h:K .normal s):lR id K (.exit j) s:=by subst e;show (if j=j then _ else _);rw[if_pos rfl];exact h
theorem I1 {id j:Nat} (e:j≠id) (h:K (.exit j) s):lR id K (.exit j) s:=by show (if j=id then _ else _);rw[if_neg e];exact h
theorem AE {id:Nat} (h:K .ret s):lR id K .ret s:=h
theorem On (h:K .normal s):W P D n0 .skip s K:=h
theorem ua {id:Nat} (h:K (.exit id) s):W P D n0 (.exit id) s K:=h
theorem QG (h:K .ret s):W P D n0 .ret s K:=h
theorem Iu {c:Operand} {a b:Code} {t:Bool} (hc:s.ev c= .c (.f (.v (.bool t)))) (h1:t=true->W P D n0 a s K) (h2:t=false->W P D n0 b s K):W P D n0 (.cond c a b) s K:=by
 unfold W;rw[hc];cases t with
 |true=>exact h1 rfl
 |false=>exact h2 rfl
theorem Om {c:Code} {α:Type} (I:α->St->Prop) (μ:α->Nat) (x0:α) (s0:St) (hw:di n0 s s0) (h0:I x0 s0) (h: ∀ x s1,I x s1->W P D n0 c s1 (Ra n0 I μ x K)):W P D n0 (.loop c) s K:=⟨α,I,μ,x0,⟨s0,hw,h0⟩,h⟩
structure wG (n0:Nat) {α:Type} (st:α->St) (Inv:α->Prop) (μ:α->Nat) (x:α) (K:bI->St->Prop) (e:bI) (s':St):Prop where
 out:match e with
  | .normal=> ∃ y,di n0 s' (st y)/\Inv y/\μ y<μ x
  | .exit i=>K (.exit i) s'
  | .ret=>K .ret s'
theorem jz {K K':bI->St->Prop}: ∀ (c:Code) (s:St) (K K':bI->St->Prop),(∀ e s,K e s->K' e s)->W P D n0 c s K->(∀ ops s K K',(∀ s,K s->K' s)->D ops s K->D ops s K')->W P D n0 c s K'
 | .skip,s,K,K',h,hh,hD=>h _ _ hh
 | .region _ ops false,s,K,K',h,hh,hD=>by
  have key: ∀ (l:List Oper) (s:St),sR P ops l s (K .normal)->sR P ops l s (K' .normal):=by
   intro l
   induction l with
   |nil=>intro s k;exact h _ _ k
   |cons o l ih=>
    intro s k;rcases k with k|⟨k1,f,xs,k2,bs,ys,Hs,Q,k3,k4,k5,k6,k7,k8,k9,k10⟩|⟨k1,t,tx,x,y,sz,by_,zs,n,fs,k2,k3,k4,k5,k6,k7,k8,k9⟩|⟨s2,k1,k2⟩|⟨k1,α,F,k2,k3,k4⟩
    ·exact .inl (mO (fun c' s2 k=>ih s2 k) k)
    ·exact .inr (.inl ⟨k1,f,xs,k2,bs,ys,Hs,Q,k3,k4,k5,k6,k7,k8,k9,fun r Hs' hq=>⟨(k10 r Hs' hq).1,ih _ (k10 r Hs' hq).2⟩⟩)
    rotate_right
    ·exact .inr (.inr (.inr (.inr ⟨k1,α,F,k2,k3,fun x=>ih _ (k4 x)⟩)))
    rotate_right
    ·exact .inr (.inr (.inr (.inl ⟨s2,k1,mO (fun c' s2 k=>ih s2 k) k2⟩)))
    ·exact .inr (.inr (.inl ⟨k1,t,tx,x,y,sz,by_,zs,n,fs,k2,k3,k4,k5,k6,k7,k8,fun cap hc=>ih _ (k9 cap hc)⟩))
  exact key _ _ hh
 | .region _ ops true,s,K,K',h,hh,hD=>hD _ _ _ _ (fun s k=>h _ _ k) hh
 | .seq a b,s,K,K',h,hh,hD=>by
  refine jz (K:=K) (K':=K') a s _ _ (fun e s k=> ?_) hh hD;cases e with
  |normal=>
   rcases k with k|⟨s2,hw,k⟩|⟨α,F,hw,k⟩
   ·exact .inl (jz (K:=K) (K':=K') b s _ _ h k hD)
   ·exact .inr (.inl ⟨s2,hw,jz (K:=K) (K':=K') b s2 _ _ h k hD⟩)
   ·exact .inr (.inr ⟨_,F,hw,fun x=>jz (K:=K) (K':=K') b (F x) _ _ h (k x) hD⟩)
  |exit i=>exact h _ _ k
  |ret=>exact h _ _ k
 | .cond c a b,s,K,K',h,hh,hD=>by
  unfold W at hh;split at hh
  ·rename_i t ht
   refine Iu ht (fun e=> ?_) (fun e=> ?_)
   ·rw[e,if_pos rfl] at hh;exact jz (K:=K) (K':=K') a s _ _ h hh hD
   ·rw[e,if_neg (by decide)] at hh;exact jz (K:=K) (K':=K') b s _ _ h hh hD
  ·cases hh
 | .block id c,s,K,K',h,hh,hD=>by
  refine jz (K:=K) (K':=K') c s _ _ (fun e s k=> ?_) hh hD;cases e with
  |normal=>exact h _ _ k
  |exit i=>
   dsimp only at k⊢;split at k
   ·rename_i e;rw[if_pos e];exact h _ _ k
   ·rename_i e;rw[if_neg e];exact h _ _ k
  |ret=>exact h _ _ k
 | .loop c,s,K,K',h,hh,hD=>by
  obtain ⟨α,I,μ,x0,h0,round⟩:=hh;refine ⟨α,I,μ,x0,h0,fun x s1 hi=>jz (K:=K) (K':=K') c s1 _ _ (fun e s k=> ?_) (round x s1 hi) hD⟩;cases e with
  |normal=>exact k
  |exit i=>exact h _ _ k
  |ret=>exact h _ _ k
 | .exit id,s,K,K',h,hh,hD=>h _ _ hh
 | .ret,s,K,K',h,hh,hD=>h _ _ hh
 | .rangeFunc ..,_,_,_,_,hh,_=>by cases hh
 | .scope ..,_,_,_,_,hh,_=>by cases hh
 | .label ..,_,_,_,_,hh,_=>by cases hh
 | .goto ..,_,_,_,_,hh,_=>by cases hh
 | .refuse ..,_,_,_,_,hh,_=>by cases hh
theorem yb: ∀ ops s (K K':St->Prop),(∀ s,K s->K' s)->DR P ops s K->DR P ops s K':=by
 intro ops s K K' h hh;have key: ∀ (l:List Oper) (s:St) (acc:List Cl),mP P ops l s acc K->mP P ops l s acc K':=by
  intro l
  induction l with
  |nil=>intro s acc k;exact ⟨k.1,h _ k.2⟩
  |cons o l ih=>
   intro s acc k;exact mO (fun c' s2 k=>ih s2 _ k) k
 rcases hh with hh|⟨Rp,A,B,A',B',R1,R2,sp,sE,sE2,n,hT,r1,r2,r3,k1,k2,h1,h2⟩|hh
 ·exact .inl (key _ _ _ hh)
 ·exact .inr (.inl ⟨Rp,A,B,A',B',R1,R2,sp,sE,sE2,n,hT,r1,r2,r3,h _ k1,h _ k2,h1,h2⟩)
 ·exact .inr (.inr fun id N n0 w0 κ0 ρ0 a w κ ρ hI hd Q hQ=>hh id N n0 w0 κ0 ρ0 a w κ ρ hI hd Q fun s a w κ ρ hk hI=>hQ s a w κ ρ (h _ hk) hI)
theorem aH {c:Code} {α:Type} (st:α->St) (Inv:α->Prop) (μ:α->Nat) (x0:α) (hw:di n0 s (st x0)) (h0:Inv x0) (h: ∀ x,Inv x->W P (DR P) n0 c (st x) (wG n0 st Inv μ x K)):W P (DR P) n0 (.loop c) s K:=by
 refine Om (fun x s1=>Inv x/\s1=st x) μ x0 _ hw ⟨h0,rfl⟩ fun x s1 hi=> ?_
 obtain ⟨h1,rfl⟩:=hi;refine jz (K:=K) (K':=K) c _ _ _ (fun e s k=> ?_) (h x h1) yb;have k:=k.out;cases e with
 |normal=>obtain ⟨y,k1,k2,k3⟩:=k;exact ⟨y,st y,k1,⟨k2,rfl⟩,k3⟩
 |exit i=>exact k
 |ret=>exact k
structure Nv (n0:Nat) {α β:Type} (st:α->St) (Inv:α->Prop) (μ:α->Nat) (x:α) (id:Nat) (stX:β->St) (InvX:β->Prop) (K:bI->St->Prop) (e:bI) (s':St):Prop where
 out:match e with
  | .normal=> ∃ y,di n0 s' (st y)/\Inv y/\μ y<μ x
  | .exit i=>(i=id/\ ∃ y,di n0 s' (stX y)/\InvX y)\/(i≠id/\K (.exit i) s')
  | .ret=>K .ret s'
theorem Ls {α β:Type} {st:α->St} {Inv:α->Prop} {μ:α->Nat} {x:α} {id:Nat} {stX:β->St} {InvX:β->Prop} (h:K .ret s):Nv n0 st Inv μ x id stX InvX K .ret s:=⟨h⟩
theorem az {α:Type} {st:α->St} {Inv:α->Prop} {μ:α->Nat} {x:α} (y:α) (hw:di n0 s (st y)) (h1:Inv y) (h2:μ y<μ x):wG n0 st Inv μ x K .normal s:=⟨y,hw,h1,h2⟩
theorem pw {α:Type} {st:α->St} {Inv:α->Prop} {μ:α->Nat} {x:α} {i:Nat} (h:K (.exit i) s):wG n0 st Inv μ x K (.exit i) s:=⟨h⟩
theorem Lr {α:Type} {st:α->St} {Inv:α->Prop} {μ:α->Nat} {x:α} (h:K .ret s):wG n0 st Inv μ x K .ret s:=⟨h⟩
inductive F6:ad->ad->Prop
 |refl (x:ad):F6 x x
 |iE:F6 (.c (.f .nils)) (.c (.f (.row [] 0)))
 |gl (q:Bool) (sz:Nat):F6 (.c (.f .nils)) (.c (.bg q sz [] 0))
 |g9 (sz:Nat) (cs:List ag) (len:Nat):F6 (.c (.bg true sz cs len)) (.c (.f (.row cs len)))
 |jj (sz:Nat) (cs:List ag) (len:Nat):F6 (.c (.bg false sz cs len)) (.c (.f (.row [] len)))
theorem F6.le {x y:ad} (h:F6 x y):ad.Le x y/\(x= .c .any->y= .c .any):=by
 cases h with
 |refl=>exact ⟨.refl _,id⟩
 |iE=>exact ⟨.c .iE,fun e=>by cases e⟩
 |gl=>exact ⟨.c (.gl _ _),fun e=>by cases e⟩
 |g9=>exact ⟨.c (.g9 _ _ _),fun e=>by cases e⟩
 |jj=>exact ⟨.c (.jj _ _ _),fun e=>by cases e⟩
def x9 (s:St):List (Nat×ad)->Prop
 |[]=>True
 |(d,x)::l=>(∃ y,s.ev (.tmp d)=y/\F6 y x)/\x9 s l
theorem Lc {H:HB} {l:List (Nat×ad)} {H0:HB} (hH0:s.H=H0) (h0:n0<=H0.length) (hH:v7 H0 H) (h:x9 s l):di n0 s (St.of H l):=by
 subst hH0;refine Ld h0 hH ?_
 induction l with
 |nil=>intro p hp;cases hp
 |cons a l ih=>
  obtain ⟨d,x⟩:=a;intro p hp;rcases List.mem_cons.1 hp with rfl|hp
  ·obtain ⟨y,h1,h2⟩:=h.1
   have h1:s.sl d=y:=h1;rw[h1];exact h2.le
  ·exact ih h.2 p hp
theorem bC {id:Nat} {l:List Oper} (h:sR P l.toArray l s (K .normal)):W P D n0 (.region id l.toArray false) s K:=h
theorem CQ {id:Nat} {l:List Oper} (h:mP P l.toArray l s [] (K .normal)):W P (DR P) n0 (.region id l.toArray true) s K:= .inl h
end
section
variable {P:Program} {ops:Array Oper} {s s':St} {rest:List Oper} {d:Option Tmp} {ty:TypeId} {pos:String} {af:Array Edge} {g:Option (Nat×Bool)}
inductive Rg where
 |plain (K:St->Prop)
 |drawn (acc:List Cl) (K:St->Prop)
 |seq (acc:List Cl) (K:List Cl->St->Prop)
def Rg.push (c:Cl):Rg->Rg
 | .plain K=> .plain K
 | .drawn acc K=> .drawn (c::acc) K
 | .seq acc K=> .seq (c::acc) K
def Ev (P:Program) (ops:Array Oper):List Oper->St->List Cl->(List Cl->St->Prop)->Prop
 |[],s,acc,K=>K acc s
 |o::rest,s,acc,K=>qJ P ops o s fun c s'=>Ev P ops rest s' (c::acc) K
def Tu (P:Program) (ops:Array Oper) (l:List Oper) (s:St):Rg->Prop
 | .plain K=>sR P ops l s K
 | .drawn acc K=>mP P ops l s acc K
 | .seq acc K=>Ev P ops l s acc K
structure WR (P:Program) (ops:Array Oper) (l:List Oper) (s:St) (R:Rg):Prop where
 out:Tu P ops l s R
theorem bX {l:List Oper} {K:St->Prop} (h:WR P ops l s (.plain K)):sR P ops l s K:=h.out
theorem tZ {l:List Oper} {acc:List Cl} {K:St->Prop} (h:WR P ops l s (.drawn acc K)):mP P ops l s acc K:=h.out
theorem QD {l:List Oper} {c:Cl} {K:St->Prop} (h:WR P ops l s (.plain K)):WR P ops l s ((Rg.plain K).push c):=h
theorem QC {l:List Oper} {c:Cl} {acc:List Cl} {K:St->Prop} (h:WR P ops l s (.drawn (c::acc) K)):WR P ops l s ((Rg.drawn acc K).push c):=h
theorem QE {l:List Oper} {c:Cl} {acc:List Cl} {K:List Cl->St->Prop} (h:WR P ops l s (.seq (c::acc) K)):WR P ops l s ((Rg.seq acc K).push c):=h
theorem fV {K:St->Prop} (h:K s):WR P ops [] s (.plain K):=⟨h⟩
theorem yq {acc:List Cl} {K:St->Prop} (hc:oB ops acc.reverse=true) (h:K s):WR P ops [] s (.drawn acc K):=⟨⟨hc,h⟩⟩
theorem Lx {acc:List Cl} {K:List Cl->St->Prop} (h:K acc s):WR P ops [] s (.seq acc K):=⟨h⟩
theorem oK {o:Oper} {K K':Cl->St->Prop} (h: ∀ c s,K c s->K' c s) (hh:qJ P ops o s K):qJ P ops o s K':=mO h hh
theorem lM {o:Oper} {R:Rg} (h:qJ P ops o s fun c s'=>WR P ops rest s' (R.push c)):WR P ops (o::rest) s R:=by
 refine ⟨?_⟩;cases R with
 |plain K=>exact .inl (oK (fun c s k=>k.out) h)
 |drawn acc K=>exact oK (fun c s k=>k.out) h
 |seq acc K=>exact oK (fun c s k=>k.out) h
theorem Am {o:Oper} {K:Cl->St->Prop} {x:ad} {c:eJ} (hw:cK ops s o=some true) (hc:cf o=none) (ha:j6 P (el ops o) s o=some (x,c)) (h:K (gM (el ops o) s o c) ((s.nV c).put o.dst x)):qJ P ops o s K:=by
 unfold qJ;rw[hw,hc];dsimp only;rw[if_pos rfl];exact .inl ⟨x,c,ha,h⟩
theorem It {o:Oper} {K:Cl->St->Prop} (hw:cK ops s o=some false) (h:K .q0 (s.put o.dst (.c .und))):qJ P ops o s K:=by
 unfold qJ;rw[hw];exact h
theorem cz {o:Oper} {R:Rg} {x:ad} {c:Cl} (hw:cK ops s o=some true) (hc:cf o=none) (ha:j6 P (el ops o) s o=some (x,{})) (hcl:gM (el ops o) s o {}=c) (h:WR P ops rest (s.put o.dst x) (R.push c)):WR P ops (o::rest) s R:=
 lM (Am hw hc ha (by rw[hcl];exact h))
theorem iY {o:Oper} {R:Rg} {x:ad} {c:eJ} {q:Cl} (hw:cK ops s o=some true) (hc:cf o=none) (ha:j6 P (el ops o) s o=some (x,c)) (hcl:gM (el ops o) s o c=q) {s':St} (hs:(s.nV c).put o.dst x=s') (h:WR P ops rest s' (R.push q)):WR P ops (o::rest) s R:=
 lM (Am hw hc ha (by rw[hcl,hs];exact h))
theorem Ol {o:Oper} {R:Rg} {v:Value} (hw:cK ops s o=some true) (hc:cf o=none) (hv:tX P s o v) (h:WR P ops rest (s.put o.dst (wa v)) (R.push .q0)):WR P ops (o::rest) s R:=by
 refine lM ?_;unfold qJ;rw[hw,hc];dsimp only;rw[if_pos rfl];exact .inr (.inl ⟨v,hv,h⟩)
theorem mQ {o:Oper} {R:Rg} {x:ad} {c:eJ} {fp:List Nat} {q:Cl} (hw:cK ops s o=some true) (hc:cf o=none) (hv:oy P o s x c fp) (hcl:jD s fp c=q) {s':St} (hs:(s.nV c).put o.dst x=s') (h:WR P ops rest s' (R.push q)):WR P ops (o::rest) s R:=by
 refine lM ?_;unfold qJ;rw[hw,hc];dsimp only;rw[if_pos rfl];exact .inr (.inr ⟨x,c,fp,hv,by rw[hcl,hs];exact h⟩)
theorem Lz {o:Oper} {R:Rg} (hw:cK ops s o=some false) (h:WR P ops rest (s.put o.dst (.c .und)) (R.push .q0)):WR P ops (o::rest) s R:=
 lM (It hw h)
theorem Ly {o:Oper} {R:Rg} {f:FuncId} {xs:List Operand} {args:List ad} {r:ad} (hw:cK ops s o=some true) (hc:cf o=some (f,xs)) (ha:(xs.map fun x=>(s.ev x).h)=args) (hok:(args.all (ad.ok 0))=true) (hO:Ok P f args [] r []) (h:WR P ops rest (s.put o.dst r) (R.push .q0)):WR P ops (o::rest) s R:=by
 refine lM ?_;unfold qJ;rw[hw,hc];dsimp only;rw[if_pos rfl];subst ha;exact .inl ⟨r,by simpa using hok,hO,h⟩
theorem au {o:Oper} (h:o.guard=none):cK ops s o=some true:=by unfold cK;rw[h]
theorem mz {o oj:Oper} {j:Nat} {want b:Bool} {d:Tmp} (h:o.guard=some (j,want)) (h1:ops[j]? =some oj) (h2:oj.dst=some d) (h3:s.ev (.tmp d)= .c (.f (.v (.bool b)))):cK ops s o=some (b==want):=by
 unfold cK;rw[h];simp only[h1,h2,h3]
theorem x6 {o oj:Oper} {j:Nat} {want:Bool} {d:Tmp} (h:o.guard=some (j,want)) (h1:ops[j]? =some oj) (h2:oj.dst=some d) (h3:s.ev (.tmp d)= .c .und):cK ops s o=some false:=by
 unfold cK;rw[h];simp only[h1,h2,h3]
end
section
variable {P:Program} {ops:Array Oper} {s s':St} {rest:List Oper} {d:Option Tmp} {ty:TypeId} {pos:String} {af:Array Edge} {g:Option (Nat×Bool)} {R:Rg}
abbrev Wt (ops:Array Oper) (s:St) (o:Oper):Prop:=cK ops s o=some true
abbrev Cl.dm:Cl:={ aQ:=true }
abbrev Cl.st (b:Nat):Cl:={ fp:=[b],wr:=[b] }
abbrev Cl.Qh (b:Nat):Cl:={ fp:=[b],wr:=[b],aQ:=true }
abbrev Cl.Pm (n:Nat):Cl:={ new:=some n }
def Cl.ld (tr:Bool) (b:Nat):Cl:=if tr=true then { fp:=[b],soft:=true } else { fr:=[b],soft:=true }
abbrev Cl.ip:Cl:={ soft:=true }
abbrev Cl.tk (b:Nat):Cl:={ fp:=[b],wr:=[b],soft:=true }
theorem dh {tr:Bool} {o:Oper} (h:kW tr s o=[]) (h':s6 tr s o=[]) (hl:rj o.op=false):gM tr s o {}= .q0:=by unfold gM;rw[h,h',hl];rfl
theorem yM {tr:Bool} {t:TypeId} {x:Operand} {b off:Nat} (hx:s.ev x= .c (.ptr b off)):gM tr s ⟨d,.load t x,ty,pos,af,g⟩ {}= .ld tr b:=by
 show (⟨if tr=true then nx (s.ev x) else [],if tr=true then [] else nx (s.ev x),[],none,false,true⟩:Cl)=_;rw[hx];cases tr<;>rfl
theorem EO {tr:Bool} {t:TypeId} {x:Operand} {cs:List ag} {off:Nat} (hx:s.ev x= .c (.ip cs off)):gM tr s ⟨d,.load t x,ty,pos,af,g⟩ {}= .ip:=by
 show (⟨if tr=true then nx (s.ev x) else [],if tr=true then [] else nx (s.ev x),[],none,false,true⟩:Cl)=_;rw[hx];cases tr<;>rfl
theorem tW {x:Operand} {v:ad} (hx:s.ev x=v) (hv:Flat v=true) (h:WR P ops rest (s.put d v) (R.push .q0)):WR P ops (⟨d,.move x,ty,pos,af,none⟩::rest) s R:=by
 refine cz (au rfl) rfl ?_ (dh rfl rfl rfl) h;show some (fC _ s x)=_
 unfold fC;rw[hx];split
 ·cases hv
 ·rw[cG hv]
theorem tT {x:Operand} {v:ad} (hx:s.ev x=v) (hv:Flat v=true) (h:WR P ops rest (s.put d v) (R.push .q0)):WR P ops (⟨d,.assign x,ty,pos,af,none⟩::rest) s R:=by
 refine cz (au rfl) rfl ?_ (dh rfl rfl rfl) h;show some (fC true s x)=_
 unfold fC;rw[hx];split
 ·cases hv
 ·rw[cG hv]
theorem i9 {t:Tmp} {q:Bool} {sz:Nat} {cs:List ag} {len:Nat} (hx:s.ev (.tmp t)= .c (.bg q sz cs len)) (h:WR P ops rest ((s.put (some t) (.c (aa.aQ (.bg q sz cs len)))).put d (.c (.bg q sz cs len))) (R.push .dm)):WR P ops (⟨d,.assign (.tmp t),ty,pos,af,none⟩::rest) s R:=by
 have hx':s.sl t= .c (.bg q sz cs len):=hx;refine iY (x:= .c (.bg q sz cs len)) (c:={ aQ:=some t }) (au rfl) rfl ?_ rfl ?_ h
 ·show some (fC true s (.tmp t))=_
  unfold fC;rw[hx]
 ·simp only[St.nV,St.fD,St.mW,St.nu,St.aQ,hx',ad.aQ,St.put]
theorem lK {t:Tmp} {q:Bool} {sz:Nat} {cs:List ag} {len:Nat} (hf:el ops ⟨d,.move (.tmp t),ty,pos,af,none⟩=true) (hx:s.ev (.tmp t)= .c (.bg q sz cs len)) (h:WR P ops rest ((s.put (some t) (.c (aa.aQ (.bg q sz cs len)))).put d (.c (.bg q sz cs len))) (R.push .dm)):WR P ops (⟨d,.move (.tmp t),ty,pos,af,none⟩::rest) s R:=by
 have hx':s.sl t= .c (.bg q sz cs len):=hx;refine iY (x:= .c (.bg q sz cs len)) (c:={ aQ:=some t }) (au rfl) rfl ?_ rfl ?_ h
 ·show some (fC (el ops _) s (.tmp t))=_
  unfold fC;rw[hf,hx]
 ·simp only[St.nV,St.fD,St.mW,St.nu,St.aQ,hx',ad.aQ,St.put]
theorem lJ {x:Operand} {q:Bool} {sz:Nat} {cs:List ag} {len:Nat} (hf:el ops ⟨d,.move x,ty,pos,af,none⟩=false) (hx:s.ev x= .c (.bg q sz cs len)) (h:WR P ops rest (s.put d (.c (aa.aQ (.bg q sz cs len)))) (R.push .q0)):WR P ops (⟨d,.move x,ty,pos,af,none⟩::rest) s R:=by
 refine cz (au rfl) rfl ?_ (dh rfl rfl rfl) h;show some (fC (el ops _) s x)=_
 unfold fC;rw[hf,hx];rfl
theorem Ij {c x y:Operand} {b:Bool} {v u:ad} (hc:s.ev c= .c (.f (.v (.bool b)))) (hx:s.ev x=v) (hy:s.ev y=u) (h:WR P ops rest (s.put d (if b=true then v.aQ else u.aQ)) (R.push .q0)):WR P ops (⟨d,.pick c x y,ty,pos,af,none⟩::rest) s R:=by
 refine cz (au rfl) rfl ?_ (dh rfl rfl rfl) h;show rT s c x y=_
 unfold rT;rw[hc];cases b with
 |true=>simp[hx]
 |false=>simp[hy]
theorem wI {x:Operand} {b off:Nat} (hx:s.ev x= .c (.ptr b off)) (h:WR P ops rest (s.put d (.c (.ptr b off))) (R.push .q0)):WR P ops (⟨d,.nilCheck x,ty,pos,af,none⟩::rest) s R:=by
 refine cz (au rfl) rfl ?_ (dh rfl rfl rfl) h;show wg s x=_
 unfold wg;rw[hx]
theorem Aj {x:Operand} {cs:List ag} {off:Nat} (hx:s.ev x= .c (.ip cs off)) (h:WR P ops rest (s.put d (.c (.ip cs off))) (R.push .q0)):WR P ops (⟨d,.nilCheck x,ty,pos,af,none⟩::rest) s R:=by
 refine cz (au rfl) rfl ?_ (dh rfl rfl rfl) h;show wg s x=_
 unfold wg;rw[hx]
theorem pz {t:TypeId} {x:Operand} {f k b off off':Nat} (hf:nc P t f=some k) (hx:s.ev x= .c (.ptr b off)) (ho:off+k=off') (h:WR P ops rest (s.put d (.c (.ptr b off'))) (R.push .q0)):WR P ops (⟨d,.fieldAddr t x f,ty,pos,af,none⟩::rest) s R:=by
 refine cz (au rfl) rfl ?_ (dh rfl rfl rfl) h;show dX P s t x f=_
 unfold dX;rw[hf,hx,← ho]
theorem Et {t:TypeId} {x:Operand} {f k off off':Nat} {cs:List ag} (hf:nc P t f=some k) (hx:s.ev x= .c (.ip cs off)) (ho:off+k=off') (h:WR P ops rest (s.put d (.c (.ip cs off'))) (R.push .q0)):WR P ops (⟨d,.fieldAddr t x f,ty,pos,af,none⟩::rest) s R:=by
 refine cz (au rfl) rfl ?_ (dh rfl rfl rfl) h;show dX P s t x f=_
 unfold dX;rw[hf,hx,← ho]
theorem eD {t:TypeId} {x:Operand} {n b off:Nat} {cells:List aa} {y:aa} (ht:oe P t=some (false,n)) (hx:s.ev x= .c (.ptr b off)) (hb:s.H[b]? =some (some cells)) (hy:cells[off]? =some y) (hf:y.flat=true) (h:WR P ops rest (s.put d (.c y)) (R.push (.ld (el ops ⟨d,.load t x,ty,pos,af,none⟩) b))):WR P ops (⟨d,.load t x,ty,pos,af,none⟩::rest) s R:=by
 refine cz (au rfl) rfl ?_ (yM hx) h;show eb P _ s t x=_
 unfold eb;rw[ht,hx];dsimp only;rw[hb];dsimp only;rw[hy];dsimp only;split
 ·cases hf
 ·cases hf
 ·rw[aa.cG hf]
theorem jY {t:TypeId} {x:Operand} {n b off:Nat} {cells:List aa} {cs:List aa} (ht:oe P t=some (true,n)) (hx:s.ev x= .c (.ptr b off)) (hb:s.H[b]? =some (some cells)) (hy:off+n<=cells.length/\gE cells=true) (hc:((cells.drop off).take n).map aa.aQ=cs) (h:WR P ops rest (s.put d (.agg cs)) (R.push (.ld (el ops ⟨d,.load t x,ty,pos,af,none⟩) b))):WR P ops (⟨d,.load t x,ty,pos,af,none⟩::rest) s R:=by
 refine cz (au rfl) rfl ?_ (yM hx) h;show eb P _ s t x=_
 unfold eb;rw[ht,hx];dsimp only;rw[hb];dsimp only;rw[if_pos hy,hc]
theorem tV {t:TypeId} {x:Operand} {n off:Nat} {cs:List ag} {y:ag} (ht:oe P t=some (false,n)) (hx:s.ev x= .c (.ip cs off)) (hy:cs[off]? =some y) (h:WR P ops rest (s.put d (.c (.f y))) (R.push .ip)):WR P ops (⟨d,.load t x,ty,pos,af,none⟩::rest) s R:=by
 refine cz (au rfl) rfl ?_ (EO hx) h;show eb P _ s t x=_
 unfold eb;rw[ht,hx];dsimp only;rw[hy]
theorem CH {t:TypeId} {x:Operand} {n off:Nat} {cs:List ag} {ys:List aa} (ht:oe P t=some (true,n)) (hx:s.ev x= .c (.ip cs off)) (hy:off+n<=cs.length) (hc:((cs.drop off).take n).map aa.f=ys) (h:WR P ops rest (s.put d (.agg ys)) (R.push .ip)):WR P ops (⟨d,.load t x,ty,pos,af,none⟩::rest) s R:=by
 refine cz (au rfl) rfl ?_ (EO hx) h;show eb P _ s t x=_
 unfold eb;rw[ht,hx];dsimp only;rw[if_pos hy,hc]
theorem EM {b:Nat} {cs:List aa}:s.nV { dk:=some (b,cs) }=s.jm (dT s.H b cs):=rfl
theorem yL {cs:List aa}:s.nV { new:=some cs }=s.jm (s.H++[some cs]):=rfl
theorem nP {t:TypeId} {x y:Operand} {q:Bool} {n b off:Nat} {cells ds:List aa} {v:ad} {H':HB} (ht:oe P t=some (q,n)) (hx:s.ev x= .c (.ptr b off)) (hb:s.H[b]? =some (some cells)) (hy:s.ev y=v) (hv:Flat v=true) (hd:v.cells=some ds) (hl:ds.length=n/\off+n<=cells.length/\gE cells=true) (hH:dT s.H b (setAt cells off ds)=H')
  (h:WR P ops rest (s.jm H') (R.push (.st b))):WR P ops (⟨none,.store t x y,ty,pos,af,none⟩::rest) s R:=by
 refine iY (x:= .c .any) (c:={ dk:=some (b,setAt cells off ds) }) (au rfl) rfl ?_ (by unfold gM;show (⟨nx (s.ev x),_,_,_,_,_⟩:Cl)=_;rw[hx];rfl) (s':=s.jm H') ?_ h
 ·show km P s t x y=_
  unfold km;rw[ht,hx];dsimp only;rw[hb];dsimp only;have hh:holds s y=none:=by
   unfold holds;split
   ·rw[hy]
    split
    ·cases hv
    ·rfl
   ·rfl
  rw[hh];dsimp only;rw[hy,cG hv,hd];dsimp only;rw[if_pos hl]
 ·rw[EM,hH];rfl
theorem pD {t:TypeId} {x i:Operand} {n:Int} {z len off:Nat} {k:IntKind} {cs:List ag} {v:ad} (hz:bl P t=some z) (hx:s.ev x=v) (hv:v.aQ= .c (.f (.row cs len))) (hi:s.ev i= .c (.f (.v (.int k n)))) (h0:0<=n) (h1:n<len) (ho:n.toNat*z=off)
  (h:WR P ops rest (s.put d (.c (.ip cs off))) (R.push .q0)):WR P ops (⟨d,.indexAddr t x i,ty,pos,af,none⟩::rest) s R:=by
 refine cz (au rfl) rfl ?_ (dh rfl rfl rfl) h;show dA P s t x i=_
 unfold dA;rw[hi];simp only[ad.ix];rw[if_pos h0,hz,hx,hv];simp only[if_pos h1,ho]
theorem pC {t:TypeId} {x i:Operand} {n:Int} {z b len cap off off':Nat} {k:IntKind} (hz:bl P t=some z) (hx:s.ev x= .c (.arr b off len cap)) (hi:s.ev i= .c (.f (.v (.int k n)))) (h0:0<=n) (h1:n<len) (ho:off+n.toNat*z=off')
  (h:WR P ops rest (s.put d (.c (.ptr b off'))) (R.push .q0)):WR P ops (⟨d,.indexAddr t x i,ty,pos,af,none⟩::rest) s R:=by
 refine cz (au rfl) rfl ?_ (dh rfl rfl rfl) h;show dA P s t x i=_
 unfold dA;rw[hi];simp only[ad.ix];rw[if_pos h0,hz,hx];simp only[ad.aQ,aa.aQ,if_pos h1,ho]
theorem Eu {t:TypeId} {x:Operand} {f off:Nat} {q:Option (Bool×Nat)} {cs:List aa} {r:ad} (hf:xc P t f=some (off,q)) (hx:s.ev x= .agg cs) (hr:rS cs off q=some r) (h:WR P ops rest (s.put d r) (R.push .q0)):WR P ops (⟨d,.field t x f,ty,pos,af,none⟩::rest) s R:=by
 refine cz (au rfl) rfl ?_ (dh rfl rfl rfl) h;show mS P s t x f=_
 unfold mS;rw[hf,hx];dsimp only;rw[hr]
theorem wH {x:Operand} {i:Nat} {ts:List bj} {y:bj} (hx:s.ev x= .cC ts) (hy:ts[i]? =some y) (h:WR P ops rest (s.put d y.a) (R.push .q0)):WR P ops (⟨d,.extract x i,ty,pos,af,none⟩::rest) s R:=by
 refine cz (au rfl) rfl ?_ (dh rfl rfl rfl) h;show iJ s x i=_
 unfold iJ;rw[hx];dsimp only;rw[hy]
def A9 (op:BinOp) (k:IntKind) (a b:Int):Option Value:=
 match op with
 | .add=>some (.int k (k.wrap (a+b)))
 | .sub=>some (.int k (k.wrap (a-b)))
 | .mul=>some (.int k (k.wrap (a*b)))
 | .eql=>some (.bool (decide (a=b)))
 | .neq=>some (.bool (!decide (a=b)))
 | .lss=>some (.bool (decide (a<b)))
 | .leq=>some (.bool (decide (a<=b)))
 | .gtr=>some (.bool (decide (b<a)))
 | .geq=>some (.bool (decide (b<=a)))
 | .quo=>if b=0 then none else some (.int k (k.wrap (a.tdiv b)))
 | .rem=>if b=0 then none else some (.int k (a.tmod b))
 |_=>none
theorem dD {x:Operand} {v:Value} (h:s.ev x= .c (.f (.v v))):s.env x=v:=by unfold St.env;rw[h];rfl
theorem IN {op:BinOp} {t u:TypeId} {x y:Operand} {k:IntKind} {a b:Int} {v:Value} {tr:Bool} (hx:s.ev x= .c (.f (.v (.int k a)))) (hy:s.ev y= .c (.f (.v (.int k b)))) (hv:A9 op k a b=some v):
  j6 P tr s ⟨d,.binOp op t x y u,ty,pos,af,g⟩=some (wa v,{}):=by
 show cv P s _=_;unfold cv;have h1:(([x,y]:List Operand).all fun x=>(s.ev x).gp.isSome)=true:=by simp[hx,hy,ad.gp,aa.gp,ag.gp]
 have h2:((Oper.mk d (.binOp op t x y u) ty pos af g).op.operands.toList.all fun x=>(s.ev x).gp.isSome)=true:=h1;rw[h2];simp only[Bi,Bool.not_false,Bool.and_true,if_true];have h3:bA P (execOp s.env ⟨d,.binOp op t x y u,ty,pos,af,g⟩)=some (.value v):=by
  show bA P (do let r ← (do eqGuard op t x y (s.env x) (s.env y);binOp op t (s.env x) (s.env y));pure (Next.value r))=_;rw[dD hx,dD hy];have hg:eqGuard op t x y (.int k a) (.int k b)=pure ():=by cases op<;>rfl
  rw[hg];cases op<;>simp only[A9] at hv<;>first|(cases hv;done)|skip
  case quo=>
   by_cases hb:b=0
   ·rw[if_pos hb] at hv;cases hv
   ·rw[if_neg hb] at hv;injection hv with hv;subst hv
    simp only[binOp,ne_eq,not_true_eq_false,if_false,Op.intDiv,hb];rfl
  case rem=>
   by_cases hb:b=0
   ·rw[if_pos hb] at hv;cases hv
   ·rw[if_neg hb] at hv;injection hv with hv;subst hv
    simp only[binOp,ne_eq,not_true_eq_false,if_false,Op.intDiv,hb];rfl
  all_goals (injection hv with hv;subst hv;simp only[binOp,ne_eq,not_true_eq_false,if_false];rfl)
 rw[h3]
theorem Mk {op:BinOp} {k:IntKind} {a b:Int} {v:Value} (hv:A9 op k a b=some v):wa v= .c (.f (.v v)):=by
 cases op<;>simp only[A9] at hv<;>first|(cases hv;done)|(injection hv with hv;subst hv;rfl)|skip
 all_goals (split at hv<;>first|(cases hv;done)|(injection hv with hv;subst hv;rfl))
theorem jw {op:BinOp} {t u:TypeId} {x y:Operand} {k:IntKind} {a b:Int} {v:Value} (hx:s.ev x= .c (.f (.v (.int k a)))) (hy:s.ev y= .c (.f (.v (.int k b)))) (hv:A9 op k a b=some v) (h:WR P ops rest (s.put d (.c (.f (.v v)))) (R.push .q0)):WR P ops (⟨d,.binOp op t x y u,ty,pos,af,none⟩::rest) s R:=
 cz (au rfl) rfl (by rw[← Mk hv];exact IN hx hy hv) (dh rfl rfl rfl) h
theorem wrap64 {n:Int} (h1: -9223372036854775808<=n) (h2:n<=9223372036854775807):IntKind.i64.wrap n=n:=by
 simp only[IntKind.wrap];simp[IntKind.bits,IntKind.signed];omega
theorem Qn {t u:TypeId} {x y:Operand} {a b:Int} (hx:s.ev x= .c (.f (.v (.int .i64 a)))) (hy:s.ev y= .c (.f (.v (.int .i64 b)))) (h1: -9223372036854775808<=a+b) (h2:a+b<=9223372036854775807) (h:WR P ops rest (s.put d (.c (.f (.v (.int .i64 (a+b)))))) (R.push .q0)):WR P ops (⟨d,.binOp .add t x y u,ty,pos,af,none⟩::rest) s R:=
 jw hx hy (by show some (Value.int .i64 (IntKind.i64.wrap (a+b)))=_;rw[wrap64 h1 h2]) h
theorem Qw {t u:TypeId} {x y:Operand} {a b:Int} (hx:s.ev x= .c (.f (.v (.int .i64 a)))) (hy:s.ev y= .c (.f (.v (.int .i64 b)))) (h1: -9223372036854775808<=a-b) (h2:a-b<=9223372036854775807) (h:WR P ops rest (s.put d (.c (.f (.v (.int .i64 (a-b)))))) (R.push .q0)):WR P ops (⟨d,.binOp .sub t x y u,ty,pos,af,none⟩::rest) s R:=
 jw hx hy (by show some (Value.int .i64 (IntKind.i64.wrap (a-b)))=_;rw[wrap64 h1 h2]) h
theorem Qr {t u:TypeId} {x y:Operand} {a b:Int} (hx:s.ev x= .c (.f (.v (.int .i64 a)))) (hy:s.ev y= .c (.f (.v (.int .i64 b)))) (h1: -9223372036854775808<=a*b) (h2:a*b<=9223372036854775807) (h:WR P ops rest (s.put d (.c (.f (.v (.int .i64 (a*b)))))) (R.push .q0)):WR P ops (⟨d,.binOp .mul t x y u,ty,pos,af,none⟩::rest) s R:=
 jw hx hy (by show some (Value.int .i64 (IntKind.i64.wrap (a*b)))=_;rw[wrap64 h1 h2]) h
theorem KX {a b:Int} (h0:0<=a):a.tdiv b=a / b:=Int.tdiv_eq_ediv_of_nonneg h0
theorem Qs {t u:TypeId} {x y:Operand} {a b:Int} (hx:s.ev x= .c (.f (.v (.int .i64 a)))) (hy:s.ev y= .c (.f (.v (.int .i64 b)))) (h0:0<=a) (hb:0<b) (h2:a<=9223372036854775807) (h:WR P ops rest (s.put d (.c (.f (.v (.int .i64 (a / b)))))) (R.push .q0)):WR P ops (⟨d,.binOp .quo t x y u,ty,pos,af,none⟩::rest) s R:=
 jw hx hy (by
  show (if b=0 then none else some (Value.int .i64 (IntKind.i64.wrap (a.tdiv b))))=_;have k1:0<=a / b:=Int.ediv_nonneg h0 (by omega);have k2:a / b<=a:=Int.ediv_le_self b h0;rw[if_neg (by omega),KX h0,wrap64 (by omega) (by omega)]) h
theorem Qt {t u:TypeId} {x y:Operand} {a b:Int} (hx:s.ev x= .c (.f (.v (.int .i64 a)))) (hy:s.ev y= .c (.f (.v (.int .i64 b)))) (h0:0<=a) (hb:0<b) (h:WR P ops rest (s.put d (.c (.f (.v (.int .i64 (a%b)))))) (R.push .q0)):WR P ops (⟨d,.binOp .rem t x y u,ty,pos,af,none⟩::rest) s R:=
 jw hx hy (by
  show (if b=0 then none else some (Value.int .i64 (a.tmod b)))=_;rw[if_neg (by omega),Int.tmod_eq_emod_of_nonneg h0]) h
end
section
variable {P:Program}
theorem dp {α β:Type} (f:α->Sem β): ∀ (m:Sem α),bA P (m>>= f)=(bA P m).bind fun a=>bA P (f a)
 | .pure a=>rfl
 | .program k=>by show bA P ((k P).bind f)=_;exact dp f (k P)
 | .mark _ k=>by show bA P (k.bind f)=_;exact dp f k
 | .load .. =>rfl
 | .store .. =>rfl
 | .new .. =>rfl
 | .shape .. =>rfl
 | .freeze .. =>rfl
 | .frozen .. =>rfl
 | .getObj .. =>rfl
 | .setObj .. =>rfl
 | .choose .. =>rfl
 | .sys .. =>rfl
 | .halt .. =>rfl
theorem iF {α:Type} (a:α):bA P (pure a:Sem α)=some a:=rfl
theorem DO {α β:Type} (f:α->β) (m:Sem α):bA P (Functor.map f m)=(bA P m).map f:=by
 show bA P (m>>= fun a=>pure (f a))=_;rw[dp];cases bA P m<;>rfl
theorem jP {t:TypeId} {d:TypeDesc} (h:P.underlying t=some d):bA P (underlying t)=some d:=by
 show bA P (match P.underlying t with|some d=>pure d|none=>stuck "no such type")=_
 rw[h];rfl
variable {ops:Array Oper} {s s':St} {rest:List Oper} {d:Option Tmp} {ty:TypeId} {pos:String} {af:Array Edge} {g:Option (Nat×Bool)} {R:Rg}
theorem dP {o:Oper} {v:Value} (hs:Bi o.op=false) (h1:(o.op.operands.toList.all fun x=>(s.ev x).gp.isSome)=true) (h2:bA P (execOp s.env o)=some (.value v)):cv P s o=some (wa v,{}):=by
 unfold cv;rw[h1,hs];simp only[Bool.not_false,Bool.and_true,if_true];rw[h2]
theorem cM {x:Operand} {v:Value} (h:s.ev x= .c (.f (.v v))):(s.ev x).gp.isSome=true:=by rw[h];rfl
theorem BG {m:Sem Value} {v:Value} (h:bA P m=some v):bA P (do pure (Next.value (← m)))=some (.value v):=by
 rw[dp,h];rfl
def PK (op:BinOp) (a b:ByteArray):Option Value:=
 match op with
 | .add=>if ((a.size+b.size:Nat):Int)>9223372036854775807 then none else some (.string (a++b))
 | .eql=>some (.bool (a.toList==b.toList))
 | .neq=>some (.bool !(a.toList==b.toList))
 | .lss=>some (.bool (Op.bytesLess a.toList b.toList))
 |_=>none
theorem Il {op:BinOp} {t u:TypeId} {x y:Operand} {a b:ByteArray} {v:Value} (hx:s.ev x= .c (.f (.v (.string a)))) (hy:s.ev y= .c (.f (.v (.string b)))) (hv:PK op a b=some v) (h:WR P ops rest (s.put d (.c (.f (.v v)))) (R.push .q0)):WR P ops (⟨d,.binOp op t x y u,ty,pos,af,none⟩::rest) s R:=by
 have hof:wa v= .c (.f (.v v)):=by
  cases op<;>simp only[PK] at hv<;>first|(cases hv;done)|(injection hv with hv;subst hv;rfl)|skip
  all_goals (split at hv<;>first|(cases hv;done)|(injection hv with hv;subst hv;rfl))
 refine cz (au rfl) rfl ?_ (dh rfl rfl rfl) h;rw[← hof];show cv P s _=_
 refine dP rfl ?_ ?_
 ·show ([x,y].all fun x=>(s.ev x).gp.isSome)=true
  simp[cM hx,cM hy]
 ·show bA P (do pure (Next.value (← (do eqGuard op t x y (s.env x) (s.env y);binOp op t (s.env x) (s.env y)))))=_
  rw[dD hx,dD hy];have hg:eqGuard op t x y (.string a) (.string b)=pure ():=by cases op<;>rfl
  rw[hg];refine BG ?_;rw[dp,iF];show bA P (binOp op t (.string a) (.string b))=_
  cases op<;>simp only[PK] at hv<;>first|(cases hv;done)|skip
  case add=>
   split at hv
   ·cases hv
   ·rename_i hle
    injection hv with hv;subst hv;show bA P (Op.stringOp .add a b)=_
    unfold Op.stringOp;dsimp only;rw[if_neg (show ¬ ((a.size+b.size:Nat):Int)>IntKind.i64.max from hle)];rfl
  all_goals (injection hv with hv;subst hv;rfl)
theorem Ga {t:TypeId} {x:Operand} {b:ByteArray} (ht:P.underlying t=some .string) (hx:s.ev x= .c (.f (.v (.string b)))) (h:WR P ops rest (s.put d (.c (.f (.v (.int .i64 b.size))))) (R.push .q0)):
  WR P ops (⟨d,.call { callee:= .builtin .len,args:= #[x],argTypes:= #[t] },ty,pos,af,none⟩::rest) s R:=by
 refine cz (au rfl) rfl ?_ (dh rfl rfl rfl) h;show oM P s _ t x=_
 unfold oM;have he:bl P t=none:=by unfold bl;rw[ht]
 rw[he];refine (dP (v:= .int .i64 b.size) rfl ?_ ?_).trans rfl
 ·show ([x].all fun x=>(s.ev x).gp.isSome)=true
  simp[cM hx]
 ·simp only[execOp,resolve,List.map_toArray,List.map_cons,List.map_nil,dp,iF,Option.bind_some,invoke,builtin,dD hx]
  show (bA P (underlying t>>= _)).bind _=_;rw[dp,jP ht];rfl
theorem F9 {t:TypeId} {x:Operand} {v:ad} {z:Nat} {cs:List ag} {len:Nat} (hz:bl P t=some z) (hx:s.ev x=v) (hv:v.aQ= .c (.f (.row cs len))) (h:WR P ops rest (s.put d (.c (.f (.v (.int .i64 len))))) (R.push .q0)):
  WR P ops (⟨d,.call { callee:= .builtin .len,args:= #[x],argTypes:= #[t] },ty,pos,af,none⟩::rest) s R:=by
 refine cz (au rfl) rfl ?_ (dh rfl rfl rfl) h;show oM P s _ t x=_
 unfold oM;rw[hz,hx,hv]
theorem F7 {t:TypeId} {x:Operand} {z b off len cap:Nat} (hz:bl P t=some z) (hx:s.ev x= .c (.arr b off len cap)) (h:WR P ops rest (s.put d (.c (.f (.v (.int .i64 len))))) (R.push .q0)):
  WR P ops (⟨d,.call { callee:= .builtin .len,args:= #[x],argTypes:= #[t] },ty,pos,af,none⟩::rest) s R:=by
 refine cz (au rfl) rfl ?_ (dh rfl rfl rfl) h;show oM P s _ t x=_
 unfold oM;rw[hz,hx];rfl
theorem F8 {t e:TypeId} {x:Operand} (ht:P.underlying t=some (.slice e)) (hx:s.ev x= .c (.f .nils)) (h:WR P ops rest (s.put d (.c (.f (.v (.int .i64 0))))) (R.push .q0)):
  WR P ops (⟨d,.call { callee:= .builtin .len,args:= #[x],argTypes:= #[t] },ty,pos,af,none⟩::rest) s R:=by
 refine cz (au rfl) rfl ?_ (dh rfl rfl rfl) h;show oM P s _ t x=_
 have hp:cv P s ⟨d,.call { callee:= .builtin .len,args:= #[x],argTypes:= #[t] },ty,pos,af,none⟩=some (wa (.int .i64 0),{}):=by
  refine dP rfl ?_ ?_
  ·show ([x].all fun x=>(s.ev x).gp.isSome)=true
   simp[hx,ad.gp,aa.gp,ag.gp]
  ·have he:s.env x= .slice none 0 0:=by unfold St.env;rw[hx];rfl
   simp only[execOp,resolve,List.map_toArray,List.map_cons,List.map_nil,dp,iF,Option.bind_some,invoke,builtin,he];show (bA P (underlying t>>= _)).bind _=_
   rw[dp,jP ht];rfl
 unfold oM;rw[hx];split
 ·rename_i heq;cases heq
 ·rename_i heq;cases heq
 ·exact hp
theorem Ai {t:TypeId} {x i:Operand} {b:ByteArray} {k:IntKind} {n:Int} {c:UInt8} (ht:P.underlying t=some .string) (hx:s.ev x= .c (.f (.v (.string b)))) (hi:s.ev i= .c (.f (.v (.int k n)))) (h0:0<=n) (hc:b[n.toNat]? =some c) (h:WR P ops rest (s.put d (.c (.f (.v (.int .u8 c.toNat))))) (R.push .q0)):
  WR P ops (⟨d,.index t x i,ty,pos,af,none⟩::rest) s R:=by
 refine cz (au rfl) rfl ?_ (dh rfl rfl rfl) h;show lO P s _ t x i=_
 unfold lO;have he:EW P t=none:=by unfold EW;rw[ht]
 rw[he];refine (dP (v:= .int .u8 c.toNat) rfl ?_ ?_).trans rfl
 ·show ([x,i].all fun x=>(s.ev x).gp.isSome)=true
  simp[cM hx,cM hi]
 ·show bA P (do pure (Next.value (← Instr.index t (s.env x) (s.env i))))=_
  rw[dD hx,dD hi];refine BG ?_;unfold Instr.index;show bA P (underlying t>>= _)=_
  rw[dp,jP ht];simp only[Option.bind_some,if_pos h0,hc];rfl
theorem yg {t:TypeId} {x i:Operand} {b:ByteArray} {k:IntKind} {n:Int} (ht:P.underlying t=some .string) (hx:s.ev x= .c (.f (.v (.string b)))) (hi:s.ev i= .c (.f (.v (.int k n)))) (h0:0<=n) (h1:n<b.size) (h:WR P ops rest (s.put d (.c (.f (.v (.int .u8 (b.data.getD n.toNat 0).toNat))))) (R.push .q0)):
  WR P ops (⟨d,.index t x i,ty,pos,af,none⟩::rest) s R:=by
 have hlt:n.toNat<b.size:=by omega
 refine Ai ht hx hi h0 (c:=b.data.getD n.toNat 0) ?_ h;have hlt':n.toNat<b.data.size:=hlt;rw[getElem?_pos b n.toNat hlt];simp only[Array.getD,hlt',dite_true];rfl
theorem qo {k:IntKind} {n:Int} {y:Nat} {c:BoundsCode} (h0:0<=n) (h1:n<=y):bA P (Instr.sliceBound (.int k n) y c)=some n.toNat:=by
 unfold Instr.sliceBound;simp only[asIntOf,dp,iF,Option.bind_some];rw[if_pos ⟨h0,h1⟩];rfl
theorem j0 {t:TypeId} {x:Operand} {lo hi:Option Operand} {b:ByteArray} {l r:Int} (ht:P.underlying t=some .string) (hx:s.ev x= .c (.f (.v (.string b)))) (hl:gj s lo 0=some l) (hh:gj s hi b.size=some r) (h0:0<=l) (h1:l<=r) (h2:r<=b.size) (h:WR P ops rest (s.put d (.c (.f (.v (.string (b.extract l.toNat r.toNat)))))) (R.push .q0)):
  WR P ops (⟨d,.slice t x lo hi none,ty,pos,af,none⟩::rest) s R:=by
 refine cz (au rfl) rfl ?_ (dh rfl rfl rfl) h;show dK P s _ t x lo hi none=_
 unfold dK;have he:bl P t=none:=by unfold bl;rw[ht]
 rw[he];have key: ∀ (y:Option Operand) (n m:Int),gj s y m=some n->(y=none/\n=m)\/ ∃ o k,y=some o/\s.ev o= .c (.f (.v (.int k n))):=by
  intro y n m hb;cases y with
  |none=>injection hb with hb;exact .inl ⟨rfl,hb.symm⟩
  |some o=>
   simp only[gj] at hb;unfold ad.ix at hb;split at hb
   ·rename_i k m heq;injection hb with hb;subst hb;exact .inr ⟨o,k,rfl,heq⟩
   ·cases hb
 refine (dP (v:= .string (b.extract l.toNat r.toNat)) rfl ?_ ?_).trans rfl
 ·show ((#[x]++lo.toArray++hi.toArray++ #[]).toList.all fun x=>(s.ev x).gp.isSome)=true
  rcases key lo l 0 hl with ⟨rfl,_⟩|⟨o1,k1,rfl,e1⟩<;>rcases key hi r _ hh with ⟨rfl,_⟩|⟨o2,k2,rfl,e2⟩
  ·simp[cM hx]
  ·simp[cM hx,cM e2]
  ·simp[cM hx,cM e1]
  ·simp[cM hx,cM e1,cM e2]
 ·show bA P (do pure (Next.value (← Instr.sliceAt t (s.env x) (lo.map s.env) (hi.map s.env) (none.map s.env))))=_
  rw[dD hx];refine BG ?_;unfold Instr.sliceAt;rw[dp,jP ht];show bA P (Instr.slice t (.string b) (lo.map s.env) (hi.map s.env) none)=_
  unfold Instr.slice;rw[dp,jP ht];show bA P (Instr.sliceBounds false b.size b.size (lo.map s.env) (hi.map s.env) none>>= _)=_
  have hb:bA P (Instr.sliceBounds false b.size b.size (lo.map s.env) (hi.map s.env) none)=some (l.toNat,r.toNat,b.size):=by
   unfold Instr.sliceBounds;rcases key lo l 0 hl with ⟨rfl,e1⟩|⟨o1,k1,rfl,e1⟩<;>rcases key hi r _ hh with ⟨rfl,e2⟩|⟨o2,k2,rfl,e2⟩
   ·subst e1;subst e2
    simp[dp,iF]
   ·subst e1
    have q1:r<=(b.size:Int):=h2;simp[dp,iF,DO,dD e2,qo (by omega) q1]
   ·subst e2
    have q1:l<=(b.size:Int):=h1;simp[dp,iF,DO,dD e1,qo h0 q1]
   ·have q1:r<=(b.size:Int):=h2
    have q2:l<=(r.toNat:Int):=by omega
    simp[dp,iF,DO,dD e1,dD e2,qo (by omega) q1,qo h0 q2]
  rw[dp,hb];rfl
theorem tU {t u:TypeId} {du:TypeDesc} {x:Operand} {k j:IntKind} {n:Int} (ht:P.underlying t=some du) (hu:P.underlying u=some (.int j)) (hx:s.ev x= .c (.f (.v (.int k n)))) (h:WR P ops rest (s.put d (.c (.f (.v (.int j (j.wrap n)))))) (R.push .q0)):WR P ops (⟨d,.convert t u x,ty,pos,af,none⟩::rest) s R:=by
 refine cz (au rfl) rfl ?_ (dh rfl rfl rfl) h;show fA P s _ t u x=_
 unfold fA;rw[hx];refine (dP (v:= .int j (j.wrap n)) rfl ?_ ?_).trans rfl
 ·show ([x].all fun x=>(s.ev x).gp.isSome)=true
  simp[cM hx]
 ·show bA P (do pure (Next.value (← convert t u (s.env x))))=_
  rw[dD hx];refine BG ?_;unfold convert;rw[dp,jP ht];simp only[Option.bind_some];rw[dp,jP hu];rfl
theorem Ih {t u:TypeId} {du:TypeDesc} {x:Operand} {k:IntKind} {n:Int} (ht:P.underlying t=some du) (hu:P.underlying u=some (.int .i64)) (hx:s.ev x= .c (.f (.v (.int k n)))) (h1: -9223372036854775808<=n) (h2:n<=9223372036854775807) (h:WR P ops rest (s.put d (.c (.f (.v (.int .i64 n))))) (R.push .q0)):WR P ops (⟨d,.convert t u x,ty,pos,af,none⟩::rest) s R:=
 tU ht hu hx (by rw[wrap64 h1 h2];exact h)
def RV (op:UnOp):Value->Option Value
 | .int k n=>match op with
  | .neg=>some (.int k (k.wrap (0-n)))
  |_=>none
 | .bool b=>match op with
  | .not=>some (.bool !b)
  |_=>none
 |_=>none
theorem Oi {op:UnOp} {t:TypeId} {x:Operand} {a v:Value} (hx:s.ev x= .c (.f (.v a))) (hv:RV op a=some v) (h:WR P ops rest (s.put d (.c (.f (.v v)))) (R.push .q0)):WR P ops (⟨d,.unOp op t x,ty,pos,af,none⟩::rest) s R:=by
 have hof:wa v= .c (.f (.v v)):=by
  cases a<;>simp only[RV] at hv<;>first|(cases hv;done)|skip
  all_goals (cases op<;>simp only at hv<;>first|(cases hv;done)|skip)
  all_goals (injection hv with hv;subst hv;rfl)
 refine cz (au rfl) rfl ?_ (dh rfl rfl rfl) h;rw[← hof];show cv P s _=_
 refine dP rfl ?_ ?_
 ·show ([x].all fun x=>(s.ev x).gp.isSome)=true
  simp[cM hx]
 ·show bA P (do pure (Next.value (← Op.unary op (s.env x))))=_
  rw[dD hx];refine BG ?_;cases a<;>simp only[RV] at hv<;>first|(cases hv;done)|skip
  all_goals (cases op<;>simp only at hv<;>first|(cases hv;done)|skip)
  all_goals (injection hv with hv;subst hv;rfl)
theorem Qu {t u:TypeId} {x y:Operand} {k j:IntKind} {a b:Int} (hx:s.ev x= .c (.f (.v (.int k a)))) (hy:s.ev y= .c (.f (.v (.int j b)))) (hb:0<=b) (h:WR P ops rest (s.put d (.c (.f (.v (.int k (k.wrap (a*2^(min b.toNat k.bits)))))))) (R.push .q0)):WR P ops (⟨d,.binOp .shl t x y u,ty,pos,af,none⟩::rest) s R:=by
 refine cz (au rfl) rfl ?_ (dh rfl rfl rfl) h;show cv P s _=_
 refine (dP (v:= .int k (k.wrap (a*2^(min b.toNat k.bits)))) rfl ?_ ?_).trans rfl
 ·show ([x,y].all fun x=>(s.ev x).gp.isSome)=true
  simp[cM hx,cM hy]
 ·show bA P (do pure (Next.value (← (do eqGuard .shl t x y (s.env x) (s.env y);binOp .shl t (s.env x) (s.env y)))))=_
  rw[dD hx,dD hy];refine BG ?_;show bA P (Op.shift .shl k a j b)=_
  unfold Op.shift;rw[if_neg (by omega)];rfl
theorem Qv {t u:TypeId} {x y:Operand} {k j:IntKind} {a b:Int} (hx:s.ev x= .c (.f (.v (.int k a)))) (hy:s.ev y= .c (.f (.v (.int j b)))) (hb:0<=b) (h:WR P ops rest (s.put d (.c (.f (.v (.int k (a.fdiv (2^(min b.toNat k.bits)))))))) (R.push .q0)):WR P ops (⟨d,.binOp .shr t x y u,ty,pos,af,none⟩::rest) s R:=by
 refine cz (au rfl) rfl ?_ (dh rfl rfl rfl) h;show cv P s _=_
 refine (dP (v:= .int k (a.fdiv (2^(min b.toNat k.bits)))) rfl ?_ ?_).trans rfl
 ·show ([x,y].all fun x=>(s.ev x).gp.isSome)=true
  simp[cM hx,cM hy]
 ·show bA P (do pure (Next.value (← (do eqGuard .shr t x y (s.env x) (s.env y);binOp .shr t (s.env x) (s.env y)))))=_
  rw[dD hx,dD hy];refine BG ?_;show bA P (Op.shift .shr k a j b)=_
  unfold Op.shift;rw[if_neg (by omega)];rfl
def Ox (op:BinOp) (k:IntKind) (a b:Int):Option Value:=
 match op with
 | .and=>some (.int k (k.wrap ((BitVec.ofInt k.bits a&&& BitVec.ofInt k.bits b).toNat)))
 | .or=>some (.int k (k.wrap ((BitVec.ofInt k.bits a|||BitVec.ofInt k.bits b).toNat)))
 | .xor=>some (.int k (k.wrap ((BitVec.ofInt k.bits a^^^BitVec.ofInt k.bits b).toNat)))
 |_=>none
theorem Oe {op:BinOp} {t u:TypeId} {x y:Operand} {k:IntKind} {a b:Int} {v:Value} (hx:s.ev x= .c (.f (.v (.int k a)))) (hy:s.ev y= .c (.f (.v (.int k b)))) (hv:Ox op k a b=some v) (h:WR P ops rest (s.put d (.c (.f (.v v)))) (R.push .q0)):WR P ops (⟨d,.binOp op t x y u,ty,pos,af,none⟩::rest) s R:=by
 have hof:wa v= .c (.f (.v v)):=by
  cases op<;>simp only[Ox] at hv<;>first|(cases hv;done)|(injection hv with hv;subst hv;rfl)
 refine cz (au rfl) rfl ?_ (dh rfl rfl rfl) h;rw[← hof];show cv P s _=_
 refine dP rfl ?_ ?_
 ·show ([x,y].all fun x=>(s.ev x).gp.isSome)=true
  simp[cM hx,cM hy]
 ·show bA P (do pure (Next.value (← (do eqGuard op t x y (s.env x) (s.env y);binOp op t (s.env x) (s.env y)))))=_
  rw[dD hx,dD hy];refine BG ?_;cases op<;>simp only[Ox] at hv<;>first|(cases hv;done)|skip
  all_goals (injection hv with hv;subst hv;simp only[binOp,ne_eq,not_true_eq_false,if_false];rfl)
end
section
variable {P:Program} {ops:Array Oper} {s s':St} {rest:List Oper} {d:Option Tmp} {ty:TypeId} {pos:String} {af:Array Edge} {g:Option (Nat×Bool)} {R:Rg}
theorem Es {t:TypeId} {cs:List aa} {n:Nat} {H':HB} (hz:qI P t=some cs) (hn:s.H.length=n) (hH:s.H++[some cs]=H') (h:WR P ops rest ((s.jm H').put d (.c (.ptr n 0))) (R.push (.Pm n))):WR P ops (⟨d,.alloc t,ty,pos,af,none⟩::rest) s R:=by
 refine iY (x:= .c (.ptr n 0)) (c:={ new:=some cs }) (au rfl) rfl ?_ (by rw[← hn];rfl) ?_ h
 ·show lN P s t=_
  unfold lN;rw[hz,hn]
 ·rw[yL,hH]
theorem Qo {t:TypeId} {x:Operand} {v:ad} {cs:List aa} {n:Nat} {H':HB} (hx:s.ev x=v) (hc:v.aQ.cells=some cs) (hn:s.H.length=n) (hH:s.H++[some cs]=H') (h:WR P ops rest ((s.jm H').put d (.c (.ptr n 0))) (R.push (.Pm n))):WR P ops (⟨d,.box t x,ty,pos,af,none⟩::rest) s R:=by
 refine iY (x:= .c (.ptr n 0)) (c:={ new:=some cs }) (au rfl) rfl ?_ (by rw[← hn];rfl) ?_ h
 ·show yv s x=_
  unfold yv;rw[hx,hc,hn]
 ·rw[yL,hH]
theorem Og {t:TypeId} {l c:Operand} {sz by_ n:Nat} {m:Int} {k j:IntKind} {zs cs:List aa} {H':HB} (hi:dM P t=some (sz,by_,zs)) (hl:s.ev l= .c (.f (.v (.int k m)))) (hc:s.ev c= .c (.f (.v (.int j m)))) (h0:0<=m) (h1:m<=4611686018427387904) (h2:(by_:Int)*m<=281474976710656) (hn:s.H.length=n) (hz:dc zs m.toNat=cs) (hH:s.H++[some cs]=H')
  (h:WR P ops rest ((s.jm H').put d (.c (.arr n 0 m.toNat m.toNat))) (R.push (.Pm n))):WR P ops (⟨d,.makeSlice t l c,ty,pos,af,none⟩::rest) s R:=by
 refine iY (x:= .c (.arr n 0 m.toNat m.toNat)) (c:={ new:=some cs }) (au rfl) rfl ?_ (by rw[← hn];rfl) ?_ h
 ·show pG P s t l c=_
  unfold pG;rw[hi,hl,hc];show (if m=m/\0<=m/\m<=4611686018427387904/\(by_:Int)*m<=281474976710656 then _ else _)=_
  rw[if_pos ⟨rfl,h0,h1,h2⟩,hn,hz]
 ·rw[yL,hH]
theorem J6 {i:Nat} {x:Operand} {v:ad} {ds:List aa} {l:List (Nat×Operand)} {r:List (Nat×List aa)} (hx:s.ev x=v) (hd:v.aQ.cells=some ds) (h:fh s l=some r):fh s ((i,x)::l)=some ((i,ds)::r):=by
 simp only[fh,hx,hd,h]
theorem Lu {t:TypeId} {l:List (Nat×Operand)} {zs cs:List aa} {p:Pl} {ps:List (Nat×List aa)} (hb:bInfo P t=some (zs,p)) (hp:fh s l=some ps) (hf:jA p zs ps=some cs) (h:WR P ops rest (s.put d (.agg cs)) (R.push .q0)):WR P ops (⟨d,.build t l.toArray,ty,pos,af,none⟩::rest) s R:=by
 refine cz (au rfl) rfl ?_ (dh rfl rfl rfl) h;show mR P s t l=_
 unfold mR;rw[hb,hp];dsimp only;rw[hf]
theorem yf {t:TypeId} {n:Nat} {l:List (Nat×Operand)} {sz by_:Nat} {zs cs:List aa} {fs:List ag} {ps:List (Nat×List aa)} (hi:dM P t=some (sz,by_,zs)) (hp:fh s l=some ps) (hn:n*sz<=16777216) (hf:jA (.elems sz) (dc zs n) ps=some cs) (hz:jX cs=some fs) (h:WR P ops rest (s.put d (.c (.bg true sz fs n))) (R.push .q0)):WR P ops (⟨d,.buildSlice t n l.toArray,ty,pos,af,none⟩::rest) s R:=by
 refine cz (au rfl) rfl ?_ (dh rfl rfl rfl) h;show eF P s t n l=_
 unfold eF;rw[hi,hp];dsimp only;rw[if_pos hn,hf];dsimp only;rw[hz]
theorem jZ {t:TypeId} {x:Operand} {v:ad} {lo hi:Option Operand} {z len:Nat} {cs cs':List ag} {l r:Int} {len':Nat} (hz:bl P t=some z) (hx:s.ev x=v) (hv:v.aQ= .c (.f (.row cs len))) (hl:gj s lo 0=some l) (hr:gj s hi len=some r) (h0:0<=l) (h1:l<=r) (h2:r<=len) (hc:(cs.drop (l.toNat*z)).take ((r-l).toNat*z)=cs') (hn:(r-l).toNat=len') (h:WR P ops rest (s.put d (.c (.f (.row cs' len')))) (R.push .q0)):
  WR P ops (⟨d,.slice t x lo hi none,ty,pos,af,none⟩::rest) s R:=by
 refine cz (au rfl) rfl ?_ (dh rfl rfl rfl) h;show dK P s _ t x lo hi none=_
 unfold dK;rw[hz,hx,hv];dsimp only;rw[hl,hr];simp only[gj,Option.isSome_none,Bool.false_and];rw[if_pos ⟨h0,h1,h2,Int.le_refl _⟩,hc,hn]
theorem ym {t:TypeId} {x m:Operand} {v:ad} {lo hi:Operand} {z len:Nat} {cs cs':List ag} {l r q:Int} {len':Nat} (hz:bl P t=some z) (hx:s.ev x=v) (hv:v.aQ= .c (.f (.row cs len))) (hl:gj s (some lo) 0=some l) (hr:gj s (some hi) len=some r) (hm:gj s (some m) len=some q) (h0:0<=l) (h1:l<=r) (h2:r<=q) (h3:q<=len) (hc:(cs.drop (l.toNat*z)).take ((r-l).toNat*z)=cs') (hn:(r-l).toNat=len') (h:WR P ops rest (s.put d (.c (.f (.row cs' len')))) (R.push .q0)):
  WR P ops (⟨d,.slice t x (some lo) (some hi) (some m),ty,pos,af,none⟩::rest) s R:=by
 refine cz (au rfl) rfl ?_ (dh rfl rfl rfl) h;show dK P s _ t x (some lo) (some hi) (some m)=_
 unfold dK;rw[hz,hx,hv];dsimp only;rw[hl,hr,hm];simp only[Option.isSome_some,Option.isNone_some,Bool.and_false];rw[if_pos ⟨h0,h1,h2,h3⟩,hc,hn]
theorem gG {t tx:TypeId} {u:Tmp} {y:Operand} {q:Bool} {sz by_ n len:Nat} {zs:List aa} {cs fs:List ag} (hi:dM P t=some (sz,by_,zs)) (hx:s.ev (.tmp u)= .c (.bg q sz cs len)) (hs:bo P s sz tx y=some (n,fs)) {fp:List Nat} (hfp:gK (s.ev y).aQ=fp) (h1:len+n<=4611686018427387904) (h2:(len+n)*by_<=140737488355328)
  (h:WR P ops rest ((s.put (some u) (.c (aa.aQ (.bg q sz cs len)))).put d (.c (.bg q sz (cs++fs) (len+n)))) (R.push ⟨fp,[],[],none,true,false⟩)):WR P ops (⟨d,.call { callee:= .builtin .append,args:= #[.tmp u,y],argTypes:= #[t,tx] },ty,pos,af,none⟩::rest) s R:=by
 have hx':s.sl u= .c (.bg q sz cs len):=hx;refine iY (x:= .c (.bg q sz (cs++fs) (len+n))) (c:={ aQ:=some u }) (au rfl) rfl ?_ (by rw[← hfp];cases q<;>(simp only[gM,kW,s6,hx,ad.aQ,aa.aQ,gK,List.nil_append];rfl)) ?_ h
 ·show qS P s t tx (.tmp u) y=_
  refine Ez ?_;unfold fl;rw[hi];dsimp only;rw[hs];dsimp only;have hh:holds s (.tmp u)=some (u,q,sz,cs,len):=by unfold holds;simp only[hx]
  rw[hh];dsimp only;rw[if_pos ⟨rfl,h1,h2⟩]
 ·simp only[St.nV,St.fD,St.mW,St.nu,St.aQ,hx',ad.aQ,St.put]
theorem ye {t tx:TypeId} {x y:Operand} {sz by_ n:Nat} {zs:List aa} {fs:List ag} (hi:dM P t=some (sz,by_,zs)) (hx:s.ev x= .c (.f .nils)) (hs:bo P s sz tx y=some (n,fs)) {fp:List Nat} (hfp:gK (s.ev y).aQ=fp) (h1:n<=4611686018427387904) (h2:n*by_<=140737488355328)
  (h:WR P ops rest (s.put d (.c (.bg true sz fs n))) (R.push ⟨fp,[],[],none,false,false⟩)):WR P ops (⟨d,.call { callee:= .builtin .append,args:= #[x,y],argTypes:= #[t,tx] },ty,pos,af,none⟩::rest) s R:=by
 refine cz (au rfl) rfl ?_ (by rw[← hfp];simp only[gM,kW,s6,hx,ad.aQ,aa.aQ,gK,List.nil_append];rfl) h;show qS P s t tx x y=_
 refine Ez ?_;unfold fl;rw[hi];dsimp only;rw[hs];dsimp only;have hh:holds s x=none:=by unfold holds;split<;>simp[hx]
 rw[hh,hx];dsimp only;rw[if_pos ⟨h1,h2⟩]
theorem qD {sz tx n:Nat} {y:Operand} {v:ad} {cs:List ag} (hy:s.ev y=v) (hv:v.aQ= .c (.f (.row cs n))) (hz:bl P tx=some sz) (hl:cs.length=n*sz):bo P s sz tx y=some (n,cs):=by
 unfold bo;rw[hy,hv,hz];simp only[hl,and_self,if_true]
theorem Nd {sz tx z:Nat} {y:Operand} (hy:s.ev y= .c (.f .nils)) (hz:bl P tx=some z):bo P s sz tx y=some (0,[]):=by
 unfold bo;rw[hy];show (match bl P tx with|some z=>some (0,[])|none=>none)=_
 rw[hz]
theorem CF {t u:TypeId} {x:Operand} {v:ad} {cs:List ag} {len:Nat} {l:List UInt8} (hc:nY P t u=true) (hx:s.ev x=v) (hv:v.aQ= .c (.f (.row cs len))) (hl:cs.length=len) (hb:bytesOf cs=some l) (h:WR P ops rest (s.put d (.c (.f (.v (.string ⟨l.toArray⟩))))) (R.push .q0)):WR P ops (⟨d,.convert t u x,ty,pos,af,none⟩::rest) s R:=by
 refine cz (au rfl) rfl ?_ (dh rfl rfl rfl) h;show fA P s _ t u x=_
 unfold fA;rw[hx,hv];dsimp only;rw[hc,hb];simp[hl]
theorem Qp {t1 t2:TypeId} {x y:Operand} {k j:IntKind} {a b:Int} (hx:s.ev x= .c (.f (.v (.int k a)))) (hy:s.ev y= .c (.f (.v (.int j b)))) (h:WR P ops rest (s.put d (.c (.f (.v (.int k (max a b)))))) (R.push .q0)):
  WR P ops (⟨d,.call { callee:= .builtin .max,args:= #[x,y],argTypes:= #[t1,t2] },ty,pos,af,none⟩::rest) s R:=by
 refine cz (au rfl) rfl ?_ (dh (by show gK (s.ev x).aQ++gK (s.ev y).aQ=[];rw[hx,hy];rfl) rfl rfl) h;show cv P s _=_
 refine (dP (v:= .int k (max a b)) rfl ?_ ?_).trans rfl
 ·show ([x,y].all fun x=>(s.ev x).gp.isSome)=true
  simp[cM hx,cM hy]
 ·simp only[execOp,resolve,List.map_toArray,List.map_cons,List.map_nil,dp,iF,Option.bind_some,invoke,builtin,dD hx,dD hy,Builtin.max_,List.foldlM_cons,List.foldlM_nil,Builtin.max2]
  have:(if b>a then b else a)=max a b:=by rw[Int.max_def];split<;>split<;>omega
  rw[this]
theorem Qq {t1 t2:TypeId} {x y:Operand} {k j:IntKind} {a b:Int} (hx:s.ev x= .c (.f (.v (.int k a)))) (hy:s.ev y= .c (.f (.v (.int j b)))) (h:WR P ops rest (s.put d (.c (.f (.v (.int k (min a b)))))) (R.push .q0)):
  WR P ops (⟨d,.call { callee:= .builtin .min,args:= #[x,y],argTypes:= #[t1,t2] },ty,pos,af,none⟩::rest) s R:=by
 refine cz (au rfl) rfl ?_ (dh (by show gK (s.ev x).aQ++gK (s.ev y).aQ=[];rw[hx,hy];rfl) rfl rfl) h;show cv P s _=_
 refine (dP (v:= .int k (min a b)) rfl ?_ ?_).trans rfl
 ·show ([x,y].all fun x=>(s.ev x).gp.isSome)=true
  simp[cM hx,cM hy]
 ·simp only[execOp,resolve,List.map_toArray,List.map_cons,List.map_nil,dp,iF,Option.bind_some,invoke,builtin,dD hx,dD hy,Builtin.min_,List.foldlM_cons,List.foldlM_nil,Builtin.min2]
  have:(if b<a then b else a)=min a b:=by rw[Int.min_def];split<;>split<;>omega
  rw[this]
theorem Lw {o:Oper} {f:FuncId} {xs:List Operand} (hw:cK ops s o=some true) (hc:cf o=some (f,xs)) (bs L:List Nat) {args args':List ad} {Hs Hs' H2:HB} {r r2:ad} (hO:Ok P f args' Hs r Hs') {n:Nat} (hn:s.H.length=n) (h1:bs.Nodup) (h2: ∀ b∈bs,b<n) (h3:Hs.map (cV (sig n bs))=(bs.map fun b=>s.H.getD b none)) (h4: ∀ x∈args',x.ok Hs.length=true) (h5:Hs.all (okB Hs.length)=true) (h6:Hs'.all (okB Hs'.length)=true)
  (h7:args'.map (ad.cW (sig n bs))=args) (h7':(xs.map fun x=>((s.ev x).h).cT s.H L)=args) (h8: ∀ b∈L,b∉bs) (h9:L=[]\/(r.bare=true/\Hs'.all wQ=true)) {c:Cl} (hcl:(⟨bs++L,[],bs,if Hs'.length=bs.length then none else some n,false,false⟩:Cl)=c) (hr:r.cW (sig n bs)=r2) (hH:bt s.H bs (Hs'.map (cV (sig n bs)))=H2)
  (h:WR P ops rest ((s.jm H2).put o.dst r2) (R.push c)):WR P ops (o::rest) s R:=by
 refine lM ?_;unfold qJ;rw[hw,hc];dsimp only;rw[if_pos rfl];subst hn;refine .inr ⟨bs,L,args',Hs,Hs',r,hO,h1,h2,h3,h4,h5,h6,h7.trans h7'.symm,h8,h9,?_⟩;rw[hcl,hr,hH];exact h
theorem pE {op:Op} {gg:Nat×Bool} {s:St} (hw:Wt ops s ⟨d,op,ty,pos,af,some gg⟩) {K:Cl->St->Prop} (hk:qJ P ops ⟨d,op,ty,pos,af,none⟩ s K):qJ P ops ⟨d,op,ty,pos,af,some gg⟩ s K:=by
 have hex: ∀ ev,execOp ev ⟨d,op,ty,pos,af,some gg⟩=execOp ev ⟨d,op,ty,pos,af,none⟩:=fun ev=>by cases op<;>rfl
 have hpl:cv P s ⟨d,op,ty,pos,af,some gg⟩=cv P s ⟨d,op,ty,pos,af,none⟩:=by unfold cv;rw[hex]
 have haop: ∀ tr,j6 P tr s ⟨d,op,ty,pos,af,some gg⟩=j6 P tr s ⟨d,op,ty,pos,af,none⟩:=fun tr=>by
  cases op<;>first|rfl|exact hpl|(simp only[j6,lO,dK,fA,hpl];done)|(simp only[j6,wN,oM,hpl];done)
 unfold qJ at hk⊢;rw[hw];rw[au rfl] at hk;dsimp only at hk⊢;rw[if_pos rfl] at hk⊢;have hcl:cf ⟨d,op,ty,pos,af,some gg⟩=cf ⟨d,op,ty,pos,af,none⟩:=rfl;rw[hcl];cases hc:cf ⟨d,op,ty,pos,af,none⟩ with
 |some fx=>rw[hc] at hk;exact hk
 |none=>
  rw[hc] at hk;rcases hk with ⟨x,c,h1,h2⟩|⟨v,h1,h2⟩|⟨x,c,fp,h1,h2⟩
  ·exact .inl ⟨x,c,(haop _).trans h1,h2⟩
  ·exact .inr (.inl ⟨v,⟨h1.op,h1.plain,fun w=>by rw[hex];exact h1.run w⟩,h2⟩)
  ·exact .inr (.inr ⟨x,c,fp,⟨fun s' k1 k2 k3 a w κ ρ hR=>by
    have:=h1.sim s' k1 k2 k3 a w κ ρ hR;unfold Yields at this⊢
    rw[hex];exact this,h1.dk,h1.aQ⟩,h2⟩)
theorem Io {op:Op} {gg:Nat×Bool} (hw:Wt ops s ⟨d,op,ty,pos,af,some gg⟩) (h:WR P ops (⟨d,op,ty,pos,af,none⟩::rest) s R):WR P ops (⟨d,op,ty,pos,af,some gg⟩::rest) s R:=by
 refine ⟨?_⟩;have h:=h.out;cases R with
 |plain K=>
  rcases h with h|⟨k1,k2⟩|⟨k1,k2⟩|⟨s2,k1,k2⟩|⟨k1,α,F,k2,k3,k4⟩
  ·exact .inl (pE hw h)
  ·exact .inr (.inl ⟨hw,k2⟩)
  ·exact .inr (.inr (.inl ⟨hw,k2⟩))
  ·exact .inr (.inr (.inr (.inl ⟨s2,k1,pE (k1.2 _ hw) k2⟩)))
  ·refine .inr (.inr (.inr (.inr ⟨hw,α,F,k2,fun a w κ ρ hR ht next Q hn=> ?_,k4⟩)))
   have hex: ∀ ev,execOp ev ⟨d,op,ty,pos,af,some gg⟩=execOp ev ⟨d,op,ty,pos,af,none⟩:=fun ev=>by cases op<;>rfl
   have:=k3 a w κ ρ hR ht next Q hn
   unfold Oper.wp at this⊢;rw[hex];exact this
 |drawn acc K=>exact pE (K:=fun c s'=>mP P ops rest s' (c::acc) K) hw h
 |seq acc K=>exact pE (K:=fun c s'=>Ev P ops rest s' (c::acc) K) hw h
theorem Im {op:Op} (hw:cK ops s ⟨d,op,ty,pos,af,g⟩=some false) (h:WR P ops rest (s.put d (.c .und)) (R.push .q0)):WR P ops (⟨d,op,ty,pos,af,g⟩::rest) s R:=Lz hw h
theorem Ik {c:Call} {f:FuncId} {xs:List Operand} {args:List ad} {r:ad} (hc:cf ⟨d,.call c,ty,pos,af,none⟩=some (f,xs)) (ha:(xs.map fun x=>(s.ev x).h)=args) (hok:(args.all (ad.ok 0))=true) (hO:Ok P f args [] r []) (h:WR P ops rest (s.put d r) (R.push .q0)):WR P ops (⟨d,.call c,ty,pos,af,none⟩::rest) s R:=Ly (au rfl) hc ha hok hO h
theorem aa.gh {H:HB} (x:aa):x.cT H []=x:=by cases x<;>simp[aa.cT]
theorem qh {H:HB} (l:List aa):l.map (aa.cT H [])=l:=by rw[List.map_congr_left (g:=id) (fun x _=>aa.gh x)];simp
theorem ad.gh {H:HB} (x:ad):x.cT H []=x:=by
 cases x with
 |c x=>simp[ad.cT,aa.gh]
 |agg cs=>simp[ad.cT,qh]
 |cC ts=>simp only[ad.cT];rw[List.map_congr_left (g:=id) (fun x _=>by cases x<;>simp[bj.cT,aa.gh,qh])];simp
theorem Of (bs:List Nat) {c:Call} {f:FuncId} {xs:List Operand} {args args':List ad} {H Hs Hs' H2:HB} {r r2:ad} {n:Nat} {q:Cl} (hc:cf ⟨d,.call c,ty,pos,af,none⟩=some (f,xs)) (ha:(xs.map fun x=>(s.ev x).h)=args) (hH:s.H=H) (hO:Ok P f args' Hs r Hs') (h7:args'.map (ad.cW (sig H.length bs))=args) (hn:H.length=n) (h3:Hs.map (cV (sig n bs))=(bs.map fun b=>H.getD b none)) (h1:bs.Nodup) (h2:(bs.all fun b=>Nat.blt b n)=true) (h4:args'.all (ad.ok Hs.length)=true) (h5:Hs.all (okB Hs.length)=true) (h6:Hs'.all (okB Hs'.length)=true)
  (hr:r.cW (sig n bs)=r2) (hH2:bt H bs (Hs'.map (cV (sig n bs)))=H2) (hq:(⟨bs,[],bs,if Hs'.length=bs.length then none else some n,false,false⟩:Cl)=q)
  (h:WR P ops rest ((s.jm H2).put d r2) (R.push q)):WR P ops (⟨d,.call c,ty,pos,af,none⟩::rest) s R:=by
 subst hH;subst hn;refine Lw (n:=s.H.length) (r2:=r2) (H2:=H2) (c:=q) (au rfl) hc bs [] hO rfl h1 (fun b hb=>by simpa using List.all_eq_true.1 h2 b hb) h3 (List.all_eq_true.1 h4) h5 h6 (args:=args) h7 ?_ (by simp) (.inl rfl) (by rw[← hq,List.append_nil]) hr hH2 h;rw[← ha];exact List.map_congr_left fun x _=>ad.gh _
theorem jy {t:TypeId} {x:Operand} {n b off:Nat} {cells:List aa} {q:Bool} {sz:Nat} {cs:List ag} {len:Nat} {H':HB} (hf:el ops ⟨d,.load t x,ty,pos,af,none⟩=true) (ht:oe P t=some (false,n)) (hx:s.ev x= .c (.ptr b off)) (hb:s.H[b]? =some (some cells)) (hy:cells[off]? =some (.bg q sz cs len)) (hH:dT s.H b (cells.modify off aa.aQ)=H') (h:WR P ops rest ((s.jm H').put d (.c (.bg q sz cs len))) (R.push (.tk b))):WR P ops (⟨d,.load t x,ty,pos,af,none⟩::rest) s R:=by
 refine iY (x:= .c (.bg q sz cs len)) (c:={ dk:=some (b,cells.modify off aa.aQ) }) (au rfl) rfl ?_ (by rw[hf];unfold gM;show (⟨nx (s.ev x),_,_,_,_,_⟩:Cl)=_;rw[hx];rfl) ?_ h
 ·show eb P (el ops _) s t x=_
  unfold eb;rw[ht,hx];dsimp only;rw[hb];dsimp only;rw[hy,hf]
 ·rw[EM,hH]
theorem jx {t:TypeId} {x:Operand} {n b off:Nat} {cells:List aa} {y:aa} (hf:el ops ⟨d,.load t x,ty,pos,af,none⟩=false) (ht:oe P t=some (false,n)) (hx:s.ev x= .c (.ptr b off)) (hb:s.H[b]? =some (some cells)) (hy:cells[off]? =some y) (hm:gE [y]=true) (h:WR P ops rest (s.put d (.c y.aQ)) (R.push (.ld false b))):WR P ops (⟨d,.load t x,ty,pos,af,none⟩::rest) s R:=by
 refine cz (au rfl) rfl ?_ (by rw[hf];exact yM hx) h;show eb P (el ops _) s t x=_
 unfold eb;rw[ht,hx];dsimp only;rw[hb];dsimp only;rw[hy,hf];cases y<;>first|rfl|cases hm
theorem iI {t:TypeId} {x:Operand} {u:Tmp} {q p:Bool} {b off:Nat} {cells:List aa} {sz:Nat} {cs:List ag} {len:Nat} {H':HB} (ht:oe P t=some (q,1)) (hx:s.ev x= .c (.ptr b off)) (hb:s.H[b]? =some (some cells)) (hy:s.ev (.tmp u)= .c (.bg p sz cs len)) (hl:Nat.blt off cells.length=true) (hm:gE cells=true) (hH:dT s.H b (cells.set off (.bg p sz cs len))=H')
  (h:WR P ops rest ((s.put (some u) (.c (aa.aQ (.bg p sz cs len)))).jm H') (R.push (.Qh b))):WR P ops (⟨none,.store t x (.tmp u),ty,pos,af,none⟩::rest) s R:=by
 have hy':s.sl u= .c (.bg p sz cs len):=hy;refine iY (x:= .c .any) (c:={ aQ:=some u,dk:=some (b,cells.set off (.bg p sz cs len)) }) (au rfl) rfl ?_ (by unfold gM;show (⟨nx (s.ev x),_,_,_,_,_⟩:Cl)=_;rw[hx];rfl) ?_ h
 ·show km P s t x (.tmp u)=_
  unfold km;rw[ht,hx];dsimp only;rw[hb];dsimp only;have hh:holds s (.tmp u)=some (u,p,sz,cs,len):=by unfold holds;simp only[hy]
  rw[hh];dsimp only;rw[if_pos ⟨rfl,by simpa using hl,hm⟩]
 ·rw[← hH]
  simp only[St.nV,St.fD,St.mW,St.nu,St.aQ,hy',ad.aQ,St.put,St.jm]
theorem yj {c x y:Operand} {b:Bool} {v:ad} (hc:s.ev c= .c (.f (.v (.bool b)))) (hb:b=true) (hx:s.ev x=v) (hv:Flat v=true) (h:WR P ops rest (s.put d v) (R.push .q0)):WR P ops (⟨d,.pick c x y,ty,pos,af,none⟩::rest) s R:=by
 subst hb;refine Ij hc hx rfl ?_;rw[if_pos rfl,cG hv];exact h
theorem yh {c x y:Operand} {b:Bool} {v:ad} (hc:s.ev c= .c (.f (.v (.bool b)))) (hb:b=false) (hy:s.ev y=v) (hv:Flat v=true) (h:WR P ops rest (s.put d v) (R.push .q0)):WR P ops (⟨d,.pick c x y,ty,pos,af,none⟩::rest) s R:=by
 subst hb;refine Ij hc rfl hy ?_;rw[if_neg (by decide),cG hv];exact h
variable {D:Array Oper->St->(St->Prop)->Prop} {n0:Nat} {K:bI->St->Prop}
theorem pM {x:Operand} {k:IntKind} {n m:Int} (h:s.ev x= .c (.f (.v (.int k n)))):gj s (some x) m=some n:=by
 simp only[gj,h,ad.ix]
theorem Hu {x:Tmp} {t:TypeId} {n b off:Nat} {cells cs:List aa} {z:bj} {rs:List ResultVar} {ys:List bj} (ht:oe P t=some (true,n)) (hx:s.ev (.tmp x)= .c (.ptr b off)) (hb:s.H[b]? =some (some cells)) (hl:off+n<=cells.length) (hm:gE cells=true) (hc:((cells.drop off).take n).map aa.aQ=cs) (hz:bj.nz (.agg cs)=z) (h:qx P s rs=some ys):qx P s (.cell x t::rs)=some (z::ys):=by
 have:eb P false s t (.tmp x)=some (.agg cs,{}):=by
  unfold eb;rw[ht,hx];dsimp only;rw[hb];dsimp only;rw[if_pos ⟨hl,hm⟩,hc]
 simp only[qx,DW,this,ad.t,Option.map_some,hz,h]
theorem Ht {x:Tmp} {t:TypeId} {n b off:Nat} {cells:List aa} {y:aa} {z:bj} {rs:List ResultVar} {ys:List bj} (ht:oe P t=some (false,n)) (hx:s.ev (.tmp x)= .c (.ptr b off)) (hb:s.H[b]? =some (some cells)) (hy:cells[off]? =some y) (hm:gE [y]=true) (hz:bj.nz (.c y.aQ)=z) (h:qx P s rs=some ys):qx P s (.cell x t::rs)=some (z::ys):=by
 have:eb P false s t (.tmp x)=some (.c y.aQ,{}):=by
  unfold eb;rw[ht,hx];dsimp only;rw[hb];dsimp only;rw[hy];cases y<;>first|rfl|cases hm
 simp only[qx,DW,this,ad.t,Option.map_some,hz,h]
theorem F6.MJ {x y:ad} (h:F6 x y) {n:Nat} (hy:y.ok n=true):x.ok n=true:=by
 cases h with
 |refl=>exact hy
 |_=>rfl
theorem Lb {n0:Nat} {H H0:HB} {l:List (Nat×ad)} (hH0:s.H=H0) (h0:n0<=H.length) (hn:H.length<=H0.length) (hg:(H0.take H.length).all (okB H.length)=true) (hl:(l.all fun p=>p.2.ok H.length)=true) (hH:v7 (H0.take H.length) H) (h:x9 s l):di n0 s (St.of H l):=by
 subst hH0;have w1:di n0 s (gc H.length s):=Nt h0 hn hg;have w2:di n0 (gc H.length s) (St.of H l):=by
  refine Lc (H0:=s.H.take H.length) rfl ?_ hH ?_
  ·rw[List.length_take];omega
  ·clear hH hg w1
   induction l with
   |nil=>trivial
   |cons a l ih=>
    obtain ⟨d,x⟩:=a;rw[List.all_cons,Bool.and_eq_true] at hl;obtain ⟨⟨y,h1,h2⟩,h3⟩:=h;refine ⟨⟨y,?_,h2⟩,ih hl.2 h3⟩;show Qa H.length (s.sl d)=y
    have h1:s.sl d=y:=h1;rw[h1];unfold Qa;rw[if_pos (h2.MJ hl.1)]
 exact w1.trans w2
theorem Nw {op:BinOp} {t u:TypeId} {x y:Operand} {cs ds:List aa} {vs us:List Value} {r:Bool} (hx:s.ev x= .agg cs) (hy:s.ev y= .agg ds) (hvs:qF cs=some vs) (hus:qF ds=some us) (hg:P.eqGuardType P.depth t=false) (heq: ∀ w,(binOp op t (.agg vs.toArray) (.agg us.toArray)).run P w= .ok (.bool r) w) (h:WR P ops rest (s.put d (.c (.f (.v (.bool r))))) (R.push .q0)):WR P ops (⟨d,.binOp op t x y u,ty,pos,af,none⟩::rest) s R:=by
 have tx:(s.ev x).gp=some (.agg vs.toArray):=by rw[hx];simp only[ad.gp,hvs]
 have t_y:(s.ev y).gp=some (.agg us.toArray):=by rw[hy];simp only[ad.gp,hus]
 refine Ol (v:= .bool r) (au rfl) rfl ⟨⟨op,t,x,y,u,rfl⟩,?_,fun w=> ?_⟩ h
 ·show ([x,y].all fun x=>(s.ev x).gp.isSome)=true
  simp[tx,t_y]
 ·have ex:s.env x= .agg vs.toArray:=by unfold St.env;rw[tx];rfl
  have ey:s.env y= .agg us.toArray:=by unfold St.env;rw[t_y];rfl
  have hgr:(eqGuard op t x y (.agg vs.toArray) (.agg us.toArray)).run P w= .ok () w:=by
   unfold eqGuard;by_cases ho:(match op with| .eql| .neq=>true|_=>false)=true
   ·cases op<;>first|(cases ho;done)|simp[program,Sem.run,hg]
   ·cases op<;>first|(exact absurd rfl ho)|rfl
  simp only[execOp,ex,ey,Sem.run_bind,hgr,Result.andThen_ok,heq w];rfl
theorem na {α β:Type} (F:α->List β) (n:Nat) (hn: ∀ x,(F x).length=n): ∀ (l:List α) (i k:Nat) (a:α),l[i]? =some a->k<n->(l.flatMap F)[i*n+k]? =(F a)[k]?
 |[],i,k,a,h,_=>by simp at h
 |x::l,0,k,a,h,hk=>by
  have:x=a:=by simpa using h
  subst this;simp only[List.flatMap_cons,Nat.zero_mul,Nat.zero_add];rw[List.getElem?_append_left (by rw[hn];exact hk)]
 |x::l,i+1,k,a,h,hk=>by
  simp only[List.flatMap_cons];have e:(i+1)*n+k=n+(i*n+k):=by rw[Nat.succ_mul];omega
  rw[e,List.getElem?_append_right (by rw[hn];omega),hn,Nat.add_sub_cancel_left];exact na F n hn l i k a (by simpa using h) hk
theorem fJ {α β:Type} (F:α->List β) (n:Nat) (hn: ∀ x,(F x).length=n): ∀ (l:List α) (i:Nat) (a:α),l[i]? =some a->i*n+n<=(l.flatMap F).length/\((l.flatMap F).drop (i*n)).take n=F a
 |[],i,a,h=>by simp at h
 |x::l,0,a,h=>by
  have:x=a:=by simpa using h
  subst this;simp only[List.flatMap_cons,Nat.zero_mul,Nat.zero_add,List.drop_zero,List.length_append,hn];exact ⟨by omega,by rw[List.take_append_of_le_length (by rw[hn];exact Nat.le_refl _),List.take_of_length_le (by rw[hn];exact Nat.le_refl _)]⟩
 |x::l,i+1,a,h=>by
  obtain ⟨h1,h2⟩:=fJ F n hn l i a (by simpa using h);simp only[List.flatMap_cons,List.length_append,hn];have e:(i+1)*n=n+i*n:=by rw[Nat.succ_mul];omega
  refine ⟨by omega,?_⟩;have e2:(F x++l.flatMap F).drop n=l.flatMap F:=by
   have e3:(F x).drop n=[]:=List.drop_of_length_le (by rw[hn];exact Nat.le_refl _);rw[List.drop_append_of_le_length (by rw[hn];exact Nat.le_refl _),e3,List.nil_append]
  rw[e,← List.drop_drop,e2];exact h2
theorem Oh {t u:TypeId} {x y:Operand} {a b:ByteArray} (hx:s.ev x= .c (.f (.v (.string a)))) (hy:s.ev y= .c (.f (.v (.string b)))) (hl:a.size+b.size<=9223372036854775807) (h:WR P ops rest (s.put d (.c (.f (.v (.string (a++b)))))) (R.push .q0)):WR P ops (⟨d,.binOp .add t x y u,ty,pos,af,none⟩::rest) s R:=
 Il hx hy (by show (if ((a.size+b.size:Nat):Int)>9223372036854775807 then none else _)=_;rw[if_neg (by omega)]) h
theorem hh:(∀ (s:St) (d:Option Tmp) (x:ad),(s.put d x).H=s.H)/\(∀ (H:HB) (l:List (Nat×ad)),(St.of H l).H=H)/\(∀ (s:St) (H:HB),(s.jm H).H=H)/\(∀ (H:HB) (b:Nat) (cs:List aa),dT H b cs=H.set b (some cs))/\
  (∀ (cs:List aa) (o:Nat),setAt cs o []=cs)/\(∀ (cs:List aa) (o:Nat) (d:aa) (ds:List aa),setAt cs o (d::ds)=setAt (cs.set o d) (o+1) ds)/\
  (∀ (a b:aa) (l:List aa),(a::l).set 0 b=b::l)/\(∀ (a b:aa) (l:List aa) (n:Nat),(a::l).set (n+1) b=a::l.set n b)/\(∀ (a b:Option (List aa)) (l:HB),(a::l).set 0 b=b::l)/\(∀ (a b:Option (List aa)) (l:HB) (n:Nat),(a::l).set (n+1) b=a::l.set n b)/\
  (∀ (a:aa) (l:List aa) (f:aa->aa),(a::l).modify 0 f=f a::l)/\(∀ (a:aa) (l:List aa) (f:aa->aa) (n:Nat),(a::l).modify (n+1) f=a::l.modify n f)/\(∀ (z l:Nat) (cs:List ag),aa.aQ (.bg true z cs l)= .f (.row cs l))/\(∀ x:ag,aa.aQ (.f x)= .f x)/\
  (∀ (a:Option (List aa)) (l:HB),(a::l).length=l.length+1)/\(([]:HB).length=0)/\(∀ n:Nat,0+n=n)/\(∀ (a:Option (List aa)) (l m:HB),a::l++m=a::(l++m))/\(∀ l:HB,[]++l=l):=
 ⟨fun _ _ _=>Qk,fun _ _=>Lp,fun _ _=>rfl,fun _ _ _=>rfl,fun _ _=>rfl,fun _ _ _ _=>rfl,fun _ _ _=>rfl,fun _ _ _ _=>rfl,fun _ _ _=>rfl,fun _ _ _ _=>rfl,fun _ _ _=>rfl,fun _ _ _ _=>rfl,fun _ _ _=>rfl,fun _=>rfl,fun _ _=>rfl,rfl,Nat.zero_add,fun _ _ _=>rfl,fun _=>rfl⟩
theorem zz:(∀ x:Value,aa.nz (.f (.v x))= .f (.v x))/\(∀ (cs:List ag) (n:Nat),aa.nz (.f (.row cs n))= .f (.row cs n))/\(aa.nz (.f .nils)= .f (.row [] 0))/\(∀ (cs:List ag) (n:Nat),aa.nz (.ip cs n)= .ip cs n)/\(∀ b n:Nat,aa.nz (.ptr b n)= .ptr b n)/\(∀ b n l c:Nat,aa.nz (.arr b n l c)= .arr b n l c)/\(∀ (z l:Nat) (cs:List ag),aa.nz (.bg true z cs l)= .bg true z cs l)/\(aa.nz .und= .und)/\(aa.nz .any= .any)/\
  (∀ x:ad,x.h=x.aQ.nz)/\(∀ x:aa,(ad.c x).aQ= .c x.aQ)/\(∀ cs:List aa,(ad.agg cs).aQ= .agg cs)/\(∀ ts:List bj,(ad.cC ts).aQ= .cC ts)/\(∀ x:aa,(ad.c x).nz= .c x.nz)/\(∀ cs:List aa,(ad.agg cs).nz= .agg (cs.map aa.nz))/\(∀ ts:List bj,(ad.cC ts).nz= .cC (ts.map bj.nz))/\(∀ x:aa,(bj.c x).nz= .c x.nz)/\(∀ cs:List aa,(bj.agg cs).nz= .agg (cs.map aa.nz))/\
  (∀ (z l:Nat) (cs:List ag),aa.aQ (.bg true z cs l)= .f (.row cs l))/\(∀ x:ag,aa.aQ (.f x)= .f x)/\(∀ (cs:List ag) (n:Nat),aa.aQ (.ip cs n)= .ip cs n)/\(∀ b n:Nat,aa.aQ (.ptr b n)= .ptr b n)/\(∀ b n l c:Nat,aa.aQ (.arr b n l c)= .arr b n l c)/\(aa.aQ .und= .und)/\(aa.aQ .any= .any)/\
  (∀ (f:aa->aa) (a:aa) (l:List aa),(a::l).map f=f a::l.map f)/\(∀ f:aa->aa,([]:List aa).map f=[])/\(∀ (f:ad->ad) (a:ad) (l:List ad),(a::l).map f=f a::l.map f)/\(∀ f:ad->ad,([]:List ad).map f=[])/\(∀ (f:bj->bj) (a:bj) (l:List bj),(a::l).map f=f a::l.map f)/\(∀ f:bj->bj,([]:List bj).map f=[])/\
  (∀ l:List aa,l.drop 0=l)/\(∀ (a:aa) (l:List aa) (n:Nat),(a::l).drop (n+1)=l.drop n)/\(∀ l:List aa,l.take 0=[])/\(∀ (a:aa) (l:List aa) (n:Nat),(a::l).take (n+1)=a::l.take n):=
 ⟨fun _=>rfl,fun _ _=>rfl,rfl,fun _ _=>rfl,fun _ _=>rfl,fun _ _ _ _=>rfl,fun _ _ _=>rfl,rfl,rfl,fun _=>rfl,fun _=>rfl,fun _=>rfl,fun _=>rfl,fun _=>rfl,fun _=>rfl,fun _=>rfl,fun _=>rfl,fun _=>rfl,fun _ _ _=>rfl,fun _=>rfl,fun _ _=>rfl,fun _ _=>rfl,fun _ _ _ _=>rfl,rfl,rfl,fun _ _ _=>rfl,fun _=>rfl,fun _ _ _=>rfl,fun _=>rfl,fun _ _ _=>rfl,fun _=>rfl,fun _=>rfl,fun _ _ _=>rfl,fun _=>rfl,fun _ _ _=>rfl⟩
theorem wn {o:Oper} (h:o.guard=none):cK ops s o=some true:=au h
end
inductive SC:Type 1 where
 |c (x:aa)
 |row {α:Type} (z:Nat) (F:α->List ag) (V:α->List SC) (d:α) (l:List α)
 |elt {α:Type} (z:Nat) (F:α->List ag) (V:α->List SC) (d:α) (l:List α) (i:Int) (k:Nat)
 |pel (b z:Nat) (i:Int) (k:Nat)
 |tipr {α:Type} (z:Nat) (F:α->List ag) (V:α->List SC) (M:List ag->Option α) (d:α) (l:List α)
 |ownr {α:Type} (z:Nat) (F:α->List ag) (V:α->List SC) (M:List ag->Option α) (d:α) (l:List α)
def SC.den:SC->aa
 | .c x=>x
 | .row z F V d l=> .f (.row (l.flatMap F) l.length)
 | .elt z F V d l i k=> .ip (l.flatMap F) (i.toNat*z+k)
 | .pel b z i k=> .ptr b (i.toNat*z+k)
 | .tipr z F V M d l=> .bg true z (l.flatMap F) l.length
 | .ownr z F V M d l=> .bg false z (l.flatMap F) l.length
inductive ST:Type 1 where
 |c (x:SC)
 |agg (l:List SC)
inductive SV:Type 1 where
 |c (x:SC)
 |agg (l:List SC)
 |cC (l:List ST)
def aU (l:List SC):List aa:=l.map SC.den
def ST.den:ST->bj
 | .c x=> .c x.den
 | .agg l=> .agg (aU l)
def SV.den:SV->ad
 | .c x=> .c x.den
 | .agg l=> .agg (aU l)
 | .cC l=> .cC (l.map ST.den)
inductive SE:Type 1 where
 |v (x:SV)
 |g (b:Bool) (x:SV)
 |u
def SE.den:SE->ad
 | .v x=>x.den
 | .g b x=>bif b then x.den else .c .und
 | .u=> .c .und
inductive SB:Type 1 where
 |cells (l:List SC)
 |elo {α:Type} (z:Nat) (F:α->List ag) (V:α->List SC) (M:List ag->Option α) (d:α) (l:List α) (m:Nat)
 |mp {β:Type} (q:Bool) (F:β->List ag) (V:β->List SC) (M:List ag->Option β) (d:β) (es:List (List Int×β))
 |rws {α:Type} (z:Nat) (F:α->List ag) (V:α->List SC) (M:List ag->Option α) (d:α) (l:List (List α)) (h:Option (Int×SC))
 |bF {α:Type} (z:Nat) (F:α->List ag) (V:α->List SC) (M:List ag->Option α) (d:α) (l:List α)
def fY {α:Type} (z:Nat) (F:α->List ag) (l:List (List α)):Option (Int×SC)->List aa
 |none=>l.map fun r=> .bg false z (r.flatMap F) r.length
 |some (i,x)=>(l.map fun r=>aa.bg false z (r.flatMap F) r.length).set i.toNat x.den
def SB.den:SB->List aa
 | .cells l=>aU l
 | .elo z F V M d l m=>(l.flatMap F).map aa.f++List.replicate m .any
 | .mp q F V M d es=>[.mp q (es.map fun p=>(p.1,F p.2))]
 | .rws z F V M d l h=>fY z F l h
 | .bF z F V M d l=>(l.flatMap F).map aa.f
abbrev SH:=List (Option SB)
abbrev SL:=List (Nat×SE)
def mG:Option SB->Option (List aa)
 |some b=>some b.den
 |none=>none
def aR (H:SH):HB:=H.map mG
def Gy (l:SL):List (Nat×ad):=l.map fun p=>(p.1,p.2.den)
def SS (l:SL) (H:SH):St:=St.of (aR H) (Gy l)
theorem bY (l:SL) (H:SH):(SS l H).H=aR H:=Lp
theorem qQ (l:SL) (H:SH) (d:Nat) (x:SE):(SS l H).put (some d) x.den=SS ((d,x)::l) H:=rfl
theorem FL {H H':HB}: ∀ l:List (Nat×ad),(St.of H l).jm H'=St.of H' l
 |[]=>rfl
 |(d,x)::l=>by
  show ((St.of H l).put (some d) x).jm H'=_;rw[← J9,FL l];rfl
theorem eK (l:SL) (H H':SH):(SS l H).jm (aR H')=SS l H':=FL _
theorem eR (l:List SC):(aU l).length=l.length:=by simp[aU]
theorem aI (H:SH):(aR H).length=H.length:=by simp[aR]
def lk:SL->Nat->Option SE
 |[],_=>none
 |(d,e)::l,t=>match Nat.beq d t with
  |true=>some e
  |false=>lk l t
theorem ka {H:SH} {t:Nat}: ∀ {l:SL} {e:SE},lk l t=some e->(SS l H).ev (.tmp t)=e.den
 |[],e,h=>by cases h
 |(d,x)::l,e,h=>by
  unfold lk at h;split at h
  ·rename_i hb
   injection h with h;subst h;have hd:d=t:=Nat.eq_of_beq_eq_true hb;subst hd;exact Dj
  ·rename_i hb
   have hd: ¬ d=t:=fun e=>by subst e;rw[Nat.beq_refl] at hb;cases hb
   exact (AW (fun e=>hd e.symm)).trans (ka (l:=l) h)
def nth {α:Type 1}:List α->Nat->Option α
 |[],_=>none
 |x::_,0=>some x
 |_::l,n+1=>nth l n
theorem gV {α:Type 1}: ∀ (l:List α) (n:Nat),nth l n=l[n]?
 |[],n=>by simp[nth]
 |x::l,0=>by simp[nth]
 |x::l,n+1=>by simp[nth,gV l n]
theorem gU {l:List SC} {n:Nat} {x:SC} (h:nth l n=some x):(aU l)[n]? =some x.den:=by
 rw[gV] at h;simp[aU,h]
theorem dz {H:SH} {n:Nat} {x:SB} (h:nth H n=some (some x)):(aR H)[n]? =some (some x.den):=by
 rw[gV] at h;simp[aR,h,mG]
def FV {β:Type 1}:List SC->Nat->(List SC->Option β)->Option β
 |_,0,k=>k []
 |[],_+1,_=>none
 |x::l,n+1,k=>FV l n fun r=>k (x::r)
def EU {β:Type 1}:List SC->Nat->(List SC->Option β)->Option β
 |l,0,k=>k l
 |[],_+1,_=>none
 |_::l,n+1,k=>EU l n k
def C9 {β:Type 1} (l:List SC) (off n:Nat) (k:List SC->Option β):Option β:=EU l off fun r=>FV r n k
theorem Cj {β:Type 1} {k:List SC->Option β} {r:β}: ∀ (l:List SC) (n:Nat),FV l n k=some r->n<=l.length/\k (l.take n)=some r
 |l,0,h=>by
  refine ⟨Nat.zero_le _,?_⟩;have:FV l 0 k=k []:=by cases l<;>rfl
  rw[this] at h;simpa using h
 |[],n+1,h=>by cases h
 |x::l,n+1,h=>by
  obtain ⟨h1,h2⟩:=Cj (k:=fun r=>k (x::r)) l n h;exact ⟨by simp;exact h1,by simpa using h2⟩
theorem AR {β:Type 1} {k:List SC->Option β} {r:β}: ∀ (l:List SC) (n:Nat),EU l n k=some r->n<=l.length/\k (l.drop n)=some r
 |l,0,h=>by
  refine ⟨Nat.zero_le _,?_⟩;have:EU l 0 k=k l:=by cases l<;>rfl
  rw[this] at h;simpa using h
 |[],n+1,h=>by cases h
 |x::l,n+1,h=>by
  obtain ⟨h1,h2⟩:=AR (k:=k) l n h;exact ⟨by simp;exact h1,by simpa using h2⟩
theorem nX {β:Type 1} {k:List SC->Option β} {r:β} {l:List SC} {off n:Nat} (h:C9 l off n k=some r):off+n<=l.length/\k ((l.drop off).take n)=some r:=by
 obtain ⟨h1,h2⟩:=AR _ _ h;obtain ⟨h3,h4⟩:=Cj _ _ h2;rw[List.length_drop] at h3;exact ⟨by omega,h4⟩
theorem ji (fs:List ag) (m:Nat):gE (fs.map aa.f++List.replicate m .any)=true:=by
 cases fs with
 |nil=>cases m<;>rfl
 |cons f l=>rfl
theorem B5 {α:Type} {z:Nat} {F:α->List ag} {l:List (List α)} {h:Option (Int×SC)}:(fY z F l h).length=l.length:=by
 cases h with
 |none=>simp[fY]
 |some p=>obtain ⟨i,x⟩:=p;simp[fY]
def JU:List SC->Bool
 | .c (.mp ..)::_=>false
 |_=>true
theorem nv: ∀ {l:List SC},JU l=true->gE (aU l)=true
 |[],_=>rfl
 | .c x::l,h=>by cases x<;>first|rfl|cases h
 | .row .. ::l,_=>rfl
 | .elt .. ::l,_=>rfl
 | .pel .. ::l,_=>rfl
 | .tipr .. ::l,_=>rfl
 | .ownr .. ::l,_=>rfl
def aF:SC->Bool
 | .c (.mp ..)=>false
 |_=>true
theorem rv {x:SC} (h:aF x=true):gE [x.den]=true:=by
 cases x with
 |c x=>cases x<;>first|rfl|cases h
 |_=>rfl
theorem rG {α:Type} {z:Nat} {F:α->List ag} {l:List (List α)}: ∀ {h:Option (Int×SC)},(∀ i x,h=some (i,x)->aF x=true)->gE (fY z F l h)=true
 |none,_=>by cases l<;>rfl
 |some (i,x),hx=>by
  have:=rv (hx i x rfl);cases l with
  |nil=>rfl
  |cons r l=>
   simp only[fY,List.map_cons];cases i.toNat with
   |zero=>
    simp only[List.set_cons_zero]
    revert this
    cases x.den<;>first|(intro _;rfl)|(intro h;cases h)
   |succ n=>rfl
theorem vK {α:Type} {z:Nat} {F:α->List ag} {l:List (List α)} {i:Int} (h0:0<=i) (h1:i<l.length):(fY z F l none)[i.toNat]? =some (.bg false z ((l.getD i.toNat []).flatMap F) (l.getD i.toNat []).length):=by
 have hi:i.toNat<l.length:=by omega
 simp[fY,List.getD_eq_getElem?_getD,List.getElem?_eq_getElem hi]
theorem lD {α:Type} {z:Nat} {F:α->List ag} {l:List (List α)} {i:Int} {x:SC} (h0:0<=i) (h1:i<l.length):(fY z F l (some (i,x)))[i.toNat]? =some x.den:=by
 have hi:i.toNat<l.length:=by omega
 simp[fY,List.getElem?_set,hi]
theorem xL {α:Type} {z:Nat} {F:α->List ag} {l:List (List α)} {i:Int} {x y:SC}:(fY z F l (some (i,y))).set i.toNat x.den=fY z F l (some (i,x)):=by
 simp[fY]
theorem tj {l:List SC} {off n:Nat}:((aU l).drop off).take n=aU ((l.drop off).take n):=by simp[aU]
structure SR:Type 1 where
 x:SV
 dm:Option (Nat×SE)
 H:Option SH
 cl:Cl
 p:Prop
def St.P8 (s:St):Option (Nat×SE)->St
 |none=>s
 |some (t,e)=>s.put (some t) e.den
def St.HH (s:St):Option SH->St
 |none=>s
 |some H=>s.jm (aR H)
def SR.dJ (r:SR) (s:St) (d:Option Tmp):St:=((s.P8 r.dm).HH r.H).put d r.x.den
inductive EK where
 |i
 |s
 |b
def eS:List EK->List Value->List Value->Option Bool
 |[],[],[]=>some true
 | .i::ks,.int .i64 a::vs,.int .i64 b::us=>match eS ks vs us with
  |some r=>some (decide (a=b)&&r)
  |none=>none
 | .s::ks,.string a::vs,.string b::us=>match eS ks vs us with
  |some r=>some ((a.toList==b.toList)&&r)
  |none=>none
 | .b::ks,.bool a::vs,.bool b::us=>match eS ks vs us with
  |some r=>some ((a==b)&&r)
  |none=>none
 |_,_,_=>none
theorem dn {vs us:List Value} {r:Bool} (h:eS [] vs us=some r):vs=[]/\us=[]/\r=true:=by
 unfold eS at h;split at h<;>simp_all
theorem aS {ks:List EK} {vs us:List Value} {r:Bool} (h:eS (.i::ks) vs us=some r): ∃ a vs' b us' q,vs= .int .i64 a::vs'/\us= .int .i64 b::us'/\eS ks vs' us'=some q/\r=(decide (a=b)&&q):=by
 unfold eS at h;split at h
 ·rename_i h0;cases h0
 ·rename_i h0
  injection h0 with _ h0;subst h0;split at h
  ·rename_i q hq
   injection h with h;exact ⟨_,_,_,_,q,rfl,rfl,hq,h.symm⟩
  ·cases h
 ·rename_i h0;cases h0
 ·rename_i h0;cases h0
 ·cases h
theorem Ji {ks:List EK} {vs us:List Value} {r:Bool} (h:eS (.s::ks) vs us=some r): ∃ a vs' b us' q,vs= .string a::vs'/\us= .string b::us'/\eS ks vs' us'=some q/\r=((a.toList==b.toList)&&q):=by
 unfold eS at h;split at h
 ·rename_i h0;cases h0
 ·rename_i h0;cases h0
 ·rename_i h0
  injection h0 with _ h0;subst h0;split at h
  ·rename_i q hq
   injection h with h;exact ⟨_,_,_,_,q,rfl,rfl,hq,h.symm⟩
  ·cases h
 ·rename_i h0;cases h0
 ·cases h
theorem NJ {ks:List EK} {vs us:List Value} {r:Bool} (h:eS (.b::ks) vs us=some r): ∃ a vs' b us' q,vs= .bool a::vs'/\us= .bool b::us'/\eS ks vs' us'=some q/\r=((a==b)&&q):=by
 unfold eS at h;split at h
 ·rename_i h0;cases h0
 ·rename_i h0;cases h0
 ·rename_i h0;cases h0
 ·rename_i h0
  injection h0 with _ h0;subst h0;split at h
  ·rename_i q hq
   injection h with h;exact ⟨_,_,_,_,q,rfl,rfl,hq,h.symm⟩
  ·cases h
 ·cases h
def iX (P:Program) (t:TypeId) (ks:List EK):Prop:=P.eqGuardType P.depth t=false/\ ∀ (vs us:List Value) (r:Bool),eS ks vs us=some r-> ∀ w,(binOp .eql t (.agg vs.toArray) (.agg us.toArray)).run P w= .ok (.bool r) w/\(binOp .neq t (.agg vs.toArray) (.agg us.toArray)).run P w= .ok (.bool !r) w
def Jh (P:Program):List (Nat×List EK)->Prop
 |[]=>True
 |p::l=>iX P p.1 p.2/\Jh P l
theorem wZ {P:Program}: ∀ {l:List (Nat×List EK)},Jh P l-> ∀ p∈l,iX P p.1 p.2
 |[],_,p,hp=>by cases hp
 |q::l,h,p,hp=>by
  rcases List.mem_cons.1 hp with rfl|hp
  ·exact h.1
  ·exact wZ h.2 p hp
structure Tb:Type 1 where
 sz:List (Nat×Bool×Nat)
 fo:List (Nat×List (Option Nat))
 fa:List (Nat×List (Nat×Option (Bool×Nat)))
 es:List (Nat×Nat)
 ms:List (Nat×Nat×Nat×List SC)
 bi:List (Nat×List SC×Pl)
 ze:List (Nat×List SC)
 st:List Nat
 it:List (Nat×IntKind)
 sl:List (Nat×Nat)
 eq:List (Nat×List EK)
 cb:List (Nat×Nat)
 qt:Bool
def iD {β:Type _}:List (Nat×β)->Nat->Option β
 |[],_=>none
 |(d,e)::l,t=>match Nat.beq d t with
  |true=>some e
  |false=>iD l t
def wu:List Nat->Nat->Bool
 |[],_=>false
 |d::l,t=>match Nat.beq d t with
  |true=>true
  |false=>wu l t
theorem ee {β:Type _}: ∀ {l:List (Nat×β)} {t:Nat} {r:β},iD l t=some r->(t,r)∈l
 |[],t,r,h=>by cases h
 |(d,e)::l,t,r,h=>by
  unfold iD at h;split at h
  ·rename_i hb
   injection h with h;subst h;rw[Nat.eq_of_beq_eq_true hb];exact List.mem_cons_self ..
  ·exact List.mem_cons_of_mem _ (ee h)
theorem Bp: ∀ {l:List Nat} {t:Nat},wu l t=true->t∈l
 |[],t,h=>by cases h
 |d::l,t,h=>by
  unfold wu at h;split at h
  ·rename_i hb
   rw[Nat.eq_of_beq_eq_true hb];exact List.mem_cons_self ..
  ·exact List.mem_cons_of_mem _ (Bp h)
structure Tb.Ok (T:Tb) (P:Program):Prop where
 sz:(T.sz.map fun p=>oe P p.1)=T.sz.map fun p=>some p.2
 fo:(T.fo.map fun p=>(List.range p.2.length).map fun f=>nc P p.1 f)=T.fo.map fun p=>p.2
 fa:(T.fa.map fun p=>(List.range p.2.length).map fun f=>xc P p.1 f)=T.fa.map fun p=>p.2.map some
 es:(T.es.map fun p=>bl P p.1)=T.es.map fun p=>some p.2
 ms:(T.ms.map fun p=>dM P p.1)=T.ms.map fun p=>some (p.2.1,p.2.2.1,aU p.2.2.2)
 bi:(T.bi.map fun p=>bInfo P p.1)=T.bi.map fun p=>some (aU p.2.1,p.2.2)
 ze:(T.ze.map fun p=>qI P p.1)=T.ze.map fun p=>some (aU p.2)
 st:(T.st.map fun t=>P.underlying t)=T.st.map fun _=>some .string
 it:(T.it.map fun p=>P.underlying p.1)=T.it.map fun p=>some (.int p.2)
 sl:(T.sl.map fun p=>P.underlying p.1)=T.sl.map fun p=>some (.slice p.2)
 eq:Jh P T.eq
 cb:(T.cb.map fun p=>nY P p.1 p.2)=T.cb.map fun _=>true
theorem fq {α β:Type _} {f g:α->β}: ∀ {l:List α},l.map f=l.map g-> ∀ x∈l,f x=g x
 |[],_,x,h=>by cases h
 |y::l,e,x,h=>by
  simp only[List.map_cons] at e;injection e with e1 e2;rcases List.mem_cons.1 h with rfl|h
  ·exact e1
  ·exact fq e2 x h
section
variable {T:Tb} {P:Program} (O:T.Ok P)
include O
theorem Tb.Ok.FT {t:Nat} {r:Bool×Nat} (h:iD T.sz t=some r):oe P t=some r:=fq O.sz _ (ee h)
theorem Tb.Ok.oD {t:Nat} {r:Nat} (h:iD T.es t=some r):bl P t=some r:=fq O.es _ (ee h)
theorem Tb.Ok.JS {t:Nat} {a b:Nat} {z:List SC} (h:iD T.ms t=some (a,b,z)):dM P t=some (a,b,aU z):=fq O.ms _ (ee h)
theorem Tb.Ok.QN {t:Nat} {z:List SC} {p:Pl} (h:iD T.bi t=some (z,p)):bInfo P t=some (aU z,p):=fq O.bi _ (ee h)
theorem Tb.Ok.RL {t:Nat} {z:List SC} (h:iD T.ze t=some z):qI P t=some (aU z):=fq O.ze _ (ee h)
theorem Tb.Ok.KU {t:Nat} (h:wu T.st t=true):P.underlying t=some .string:=fq O.st _ (Bp h)
theorem Tb.Ok.Fj {t:Nat} {k:IntKind} (h:iD T.it t=some k):P.underlying t=some (.int k):=fq O.it _ (ee h)
theorem Tb.Ok.Rs {t:Nat} {e:Nat} (h:iD T.sl t=some e):P.underlying t=some (.slice e):=fq O.sl _ (ee h)
theorem Tb.Ok.Q2 {t:Nat} {ks:List EK} (h:iD T.eq t=some ks):iX P t ks:=wZ O.eq _ (ee h)
theorem Tb.Ok.QQ {t u:Nat} (h:iD T.cb t=some u):nY P t u=true:=fq O.cb _ (ee h)
theorem Tb.Ok.Q6 {t f k:Nat} {l:List (Option Nat)} (h:iD T.fo t=some l) (h2:l[f]? =some (some k)):nc P t f=some k:=by
 have h1:=fq O.fo _ (ee h);simp only at h1
 have h3:((List.range l.length).map fun f=>nc P t f)[f]? =some (some k):=by rw[h1];exact h2
 rw[List.getElem?_map] at h3;obtain ⟨j,hj,e⟩:=Option.map_eq_some_iff.1 h3;have:=List.getElem?_range (n:=l.length) (i:=f) (by
  rcases Nat.lt_or_ge f l.length with h|h
  ·exact h
  ·rw[List.getElem?_eq_none h] at h2;cases h2)
 rw[this] at hj;injection hj with hj;subst hj;exact e
theorem Tb.Ok.Q5 {t f:Nat} {r:Nat×Option (Bool×Nat)} {l:List (Nat×Option (Bool×Nat))} (h:iD T.fa t=some l) (h2:l[f]? =some r):xc P t f=some r:=by
 have h1:=fq O.fa _ (ee h);simp only at h1
 have h3:((List.range l.length).map fun f=>xc P t f)[f]? =some (some r):=by rw[h1,List.getElem?_map,h2];rfl
 rw[List.getElem?_map] at h3;obtain ⟨j,hj,e⟩:=Option.map_eq_some_iff.1 h3;have:=List.getElem?_range (n:=l.length) (i:=f) (by
  rcases Nat.lt_or_ge f l.length with h|h
  ·exact h
  ·rw[List.getElem?_eq_none h] at h2;cases h2)
 rw[this] at hj;injection hj with hj;subst hj;exact e
end
def ou {α:Type}:List α->Nat->Option α
 |[],_=>none
 |x::_,0=>some x
 |_::l,n+1=>ou l n
theorem gT {α:Type}: ∀ (l:List α) (n:Nat),ou l n=l[n]?
 |[],n=>by simp[ou]
 |x::l,0=>by simp[ou]
 |x::l,n+1=>by simp[ou,gT l n]
def wL {α:Type} (z:Nat) (F:α->List ag) (V:α->List SC):Prop:= ∀ x,(F x).length=z/\aU (V x)=(F x).map aa.f
theorem wL.nth {α:Type} {z:Nat} {F:α->List ag} {V:α->List SC} (h:wL z F V) {x:α} {k:Nat} {y:SC} (hy:nth (V x) k=some y):k<z/\ ∃ fv,(F x)[k]? =some fv/\y.den= .f fv:=by
 obtain ⟨h1,h2⟩:=h x;have h3:=gU hy;rw[h2,List.getElem?_map] at h3;obtain ⟨fv,h4,h5⟩:=Option.map_eq_some_iff.1 h3;refine ⟨?_,fv,h4,h5.symm⟩;have:=(List.getElem?_eq_some_iff.1 h4).1;omega
abbrev iV (k:IntKind) (n:Int):SV:= .c (.c (.f (.v (.int k n))))
abbrev bV (b:Bool):SV:= .c (.c (.f (.v (.bool b))))
abbrev sV (b:ByteArray):SV:= .c (.c (.f (.v (.string b))))
def mD (P:Program) (ops:Array Oper) (o:Oper) (s:St) (r:SR):Prop:= ∀ (rest:List Oper) (R:Rg),r.p->WR P ops rest (r.dJ s o.dst) (R.push r.cl)->WR P ops (o::rest) s R
section
variable {P:Program} {ops:Array Oper} {s:St} {d:Option Tmp} {ty:TypeId} {pos:String} {af:Array Edge} {T:Tb} {r:SR}
def rM (tr:Bool) (x:Operand) (v:SV):Option SR:=
 match v with
 | .c (.c (.mp _ _))=>none
 | .c (.c (.bg false z cs n))=>match x with
  | .tmp t=>match tr with
   |true=>some ⟨.c (.c (.bg false z cs n)),some (t,.v (.c (.c (.f (.row [] n))))),none,.dm,True⟩
   |false=>some ⟨.c (.c (.f (.row [] n))),none,none,.q0,True⟩
  |_=>none
 | .c (.ownr z F V M e l)=>match x with
  | .tmp t=>match tr with
   |true=>some ⟨.c (.ownr z F V M e l),some (t,.v (.c (.c (.f (.row [] l.length))))),none,.dm,True⟩
   |false=>some ⟨.c (.c (.f (.row [] l.length))),none,none,.q0,True⟩
  |_=>none
 | .c (.c (.bg true z cs n))=>match x with
  | .tmp t=>match tr with
   |true=>some ⟨.c (.c (.bg true z cs n)),some (t,.v (.c (.c (.f (.row cs n))))),none,.dm,True⟩
   |false=>some ⟨.c (.c (.f (.row cs n))),none,none,.q0,True⟩
  |_=>none
 | .c (.tipr z F V M e l)=>match x with
  | .tmp t=>match tr with
   |true=>some ⟨.c (.tipr z F V M e l),some (t,.v (.c (.row z F V e l))),none,.dm,True⟩
   |false=>some ⟨.c (.row z F V e l),none,none,.q0,True⟩
  |_=>none
 | .c x=>some ⟨.c x,none,none,.q0,True⟩
 | .agg l=>some ⟨.agg l,none,none,.q0,True⟩
 | .cC l=>some ⟨.cC l,none,none,.q0,True⟩
def NT:SC->Prop
 | .c (.bg ..)=>False
 | .c (.mp ..)=>False
 | .tipr .. =>False
 | .ownr .. =>False
 |_=>True
theorem lq {x:SC} (h0: ∀ z cs n,x= .c (.bg false z cs n)->False) (h4: ∀ q es,x= .c (.mp q es)->False) (h3: ∀ (α:Type) (z:Nat) (F:α->List ag) (V:α->List SC) (M:List ag->Option α) (d:α) (l:List α),x= .ownr z F V M d l->False) (h: ∀ z cs n,x= .c (.bg true z cs n)->False) (h2: ∀ (α:Type) (z:Nat) (F:α->List ag) (V:α->List SC) (M:List ag->Option α) (d:α) (l:List α),x= .tipr z F V M d l->False):NT x:=by
 cases x with
 |c x=>
  cases x with
  |bg q=>
   cases q with
   |true=>exact (h _ _ _ rfl).elim
   |false=>exact (h0 _ _ _ rfl).elim
  |mp=>exact (h4 _ _ rfl).elim
  |_=>trivial
 |ownr=>exact (h3 _ _ _ _ _ _ _ rfl).elim
 |tipr=>exact (h2 _ _ _ _ _ _ _ rfl).elim
 |_=>trivial
theorem ra {x:SC} (h:NT x):x.den.flat=true:=by
 cases x with
 |c x=>cases x<;>first|rfl|exact h.elim
 |ownr=>exact h.elim
 |tipr=>exact h.elim
 |_=>rfl
theorem H3 {x:Operand} {v:SV} (hx:s.ev x=v.den) (h:rM (el ops ⟨d,.move x,ty,pos,af,none⟩) x v=some r):mD P ops ⟨d,.move x,ty,pos,af,none⟩ s r:=by
 intro rest R hp hk;unfold rM at h
 split at h
 ·cases h
 ·split at h
  ·split at h
   ·rename_i hf
    injection h with h;subst h;exact lK hf hx hk
   ·rename_i hf
    injection h with h;subst h;exact lJ hf hx hk
  ·cases h
 ·split at h
  ·split at h
   ·rename_i hf
    injection h with h;subst h;exact lK hf hx hk
   ·rename_i hf
    injection h with h;subst h;exact lJ hf hx hk
  ·cases h
 ·split at h
  ·split at h
   ·rename_i hf
    injection h with h;subst h;exact lK hf hx hk
   ·rename_i hf
    injection h with h;subst h;exact lJ hf hx hk
  ·cases h
 ·split at h
  ·split at h
   ·rename_i hf
    injection h with h;subst h;exact lK hf hx hk
   ·rename_i hf
    injection h with h;subst h;exact lJ hf hx hk
  ·cases h
 ·rename_i x' hn4 hn0 hn3 hne hne2
  injection h with h;subst h;exact tW hx (ra (lq (fun z cs n e=>hn0 z cs n (by rw[e])) (fun q es e=>hn4 q es (by rw[e])) (fun α z F V M d l e=>hn3 α z F V M d l (by rw[e])) (fun z cs n e=>hne z cs n (by rw[e])) (fun α z F V M d l e=>hne2 α z F V M d l (by rw[e])))) hk
 ·injection h with h;subst h
  exact tW hx rfl hk
 ·injection h with h;subst h
  exact tW hx rfl hk
theorem Ce {x:Operand} {v:SV} (hx:s.ev x=v.den) (h:rM true x v=some r):mD P ops ⟨d,.assign x,ty,pos,af,none⟩ s r:=by
 intro rest R hp hk;unfold rM at h
 split at h
 ·cases h
 ·split at h
  ·injection h with h;subst h
   exact i9 hx hk
  ·cases h
 ·split at h
  ·injection h with h;subst h
   exact i9 hx hk
  ·cases h
 ·split at h
  ·injection h with h;subst h
   exact i9 hx hk
  ·cases h
 ·split at h
  ·injection h with h;subst h
   exact i9 hx hk
  ·cases h
 ·rename_i x' hn4 hn0 hn3 hne hne2
  injection h with h;subst h;exact tT hx (ra (lq (fun z cs n e=>hn0 z cs n (by rw[e])) (fun q es e=>hn4 q es (by rw[e])) (fun α z F V M d l e=>hn3 α z F V M d l (by rw[e])) (fun z cs n e=>hne z cs n (by rw[e])) (fun α z F V M d l e=>hne2 α z F V M d l (by rw[e])))) hk
 ·injection h with h;subst h
  exact tT hx rfl hk
 ·injection h with h;subst h
  exact tT hx rfl hk
def KK (v:SV):Option SR:=
 match v with
 | .c (.c (.ptr b off))=>some ⟨.c (.c (.ptr b off)),none,none,.q0,True⟩
 | .c (.c (.ip cs off))=>some ⟨.c (.c (.ip cs off)),none,none,.q0,True⟩
 | .c (.elt z F V d l i k)=>some ⟨.c (.elt z F V d l i k),none,none,.q0,True⟩
 | .c (.pel b z i k)=>some ⟨.c (.pel b z i k),none,none,.q0,True⟩
 |_=>none
theorem KL {x:Operand} {v:SV} (hx:s.ev x=v.den) (h:KK v=some r):mD P ops ⟨d,.nilCheck x,ty,pos,af,none⟩ s r:=by
 intro rest R hp hk;unfold KK at h
 split at h<;>first|(cases h;done)|(injection h with h;subst h)
 ·exact wI hx hk
 ·exact Aj hx hk
 ·exact Aj hx hk
 ·exact wI hx hk
def PO (T:Tb) (t f:Nat) (v:SV):Option SR:=
 match iD T.fo t with
 |some l=>match ou l f with
  |some (some j)=>match v with
   | .c (.c (.ptr b off))=>some ⟨.c (.c (.ptr b (off+j))),none,none,.q0,True⟩
   | .c (.c (.ip cs off))=>some ⟨.c (.c (.ip cs (off+j))),none,none,.q0,True⟩
   | .c (.elt z F V d l i k)=>some ⟨.c (.elt z F V d l i (k+j)),none,none,.q0,True⟩
   | .c (.pel b z i k)=>some ⟨.c (.pel b z i (k+j)),none,none,.q0,True⟩
   |_=>none
  |_=>none
 |none=>none
theorem M8 (O:T.Ok P) {t f:Nat} {x:Operand} {v:SV} (hx:s.ev x=v.den) (h:PO T t f v=some r):mD P ops ⟨d,.fieldAddr t x f,ty,pos,af,none⟩ s r:=by
 intro rest R hp hk;unfold PO at h
 split at h
 ·rename_i l hl
  split at h
  ·rename_i j hj
   rw[gT] at hj;have hf:=O.Q6 hl hj;split at h<;>first|(cases h;done)|(injection h with h;subst h)
   ·exact pz hf hx rfl hk
   ·exact Et hf hx rfl hk
   ·exact Et hf hx (Nat.add_assoc ..) hk
   ·exact pz hf hx (Nat.add_assoc ..) hk
  ·cases h
 ·cases h
end
def gr {α β:Type 1}:List α->Nat->α->(List α->Option β)->Option β
 |[],_,_,_=>none
 |_::l,0,x,k=>k (x::l)
 |y::l,n+1,x,k=>gr l n x fun r=>k (y::r)
theorem b9 {α β:Type 1} {x:α} {r:β}: ∀ {l:List α} {n:Nat} {k:List α->Option β},gr l n x k=some r->n<l.length/\k (l.set n x)=some r
 |[],_,_,h=>by cases h
 |y::l,0,k,h=>⟨by simp,h⟩
 |y::l,n+1,k,h=>by
  obtain ⟨h1,h2⟩:=b9 (l:=l) (n:=n) h;exact ⟨by simp;exact h1,by simpa using h2⟩
def Cd {β:Type 1}:List SC->Nat->List SC->(List SC->Option β)->Option β
 |l,_,[],k=>k l
 |l,n,x::xs,k=>gr l n x fun r=>Cd r (n+1) xs k
theorem vN {β:Type 1} {r:β} {k:List SC->Option β}: ∀ {xs l:List SC} {n:Nat},Cd l n xs k=some r->n+xs.length<=l.length\/xs=[]-> ∃ l',aU l'=setAt (aU l) n (aU xs)/\k l'=some r
 |[],l,n,h,_=>⟨l,rfl,h⟩
 |x::xs,l,n,h,hn=>by
  obtain ⟨h1,h2⟩:=b9 h;obtain ⟨l',h3,h4⟩:=vN (xs:=xs) (l:=l.set n x) (n:=n+1) h2 (by
   rcases hn with hn|hn
   ·left;simp at hn⊢;omega
   ·cases hn)
  refine ⟨l',?_,h4⟩;rw[h3];simp[aU,setAt,List.map_set]
theorem rK {β:Type 1} {r:β} {k:List SC->Option β}: ∀ {xs l:List SC} {n:Nat},Cd l n xs k=some r->xs=[]\/n+xs.length<=l.length
 |[],l,n,h=> .inl rfl
 |x::xs,l,n,h=>by
  obtain ⟨h1,h2⟩:=b9 h;right;rcases rK h2 with rfl|h3
  ·simp only[List.length_cons,List.length_nil];omega
  ·simp at h3⊢;omega
theorem gz {H:SH} {b:Nat} {x:SB}:aR (H.set b (some x))=dT (aR H) b x.den:=by
 simp[aR,dT,List.map_set,mG]
def R8:SC->SC
 | .c (.bg true _ cs n)=> .c (.f (.row cs n))
 | .c (.bg false _ _ n)=> .c (.f (.row [] n))
 | .c (.mp _ _)=> .c .any
 | .ownr _ _ _ _ _ l=> .c (.f (.row [] l.length))
 | .tipr z F V M d l=> .row z F V d l
 | .c x=> .c x
 | .row z F V d l=> .row z F V d l
 | .elt z F V d l i k=> .elt z F V d l i k
 | .pel b z i k=> .pel b z i k
theorem Jd: ∀ x:SC,(R8 x).den=x.den.aQ
 | .c (.bg true ..)=>rfl
 | .c (.bg false ..)=>rfl
 | .c (.mp ..)=>rfl
 | .c (.f _)=>rfl
 | .c (.ptr ..)=>rfl
 | .c (.arr ..)=>rfl
 | .c .und=>rfl
 | .c .any=>rfl
 | .c (.mh _)=>rfl
 | .ownr .. =>rfl
 | .row .. =>rfl
 | .elt .. =>rfl
 | .pel .. =>rfl
 | .tipr .. =>rfl
def uG {β:Type 1}:List SC->(List SC->Option β)->Option β
 |[],k=>k []
 |x::l,k=>match x with
  | .c (.bg false _ _ n)=>uG l fun r=>k (.c (.f (.row [] n))::r)
  | .c (.mp _ _)=>uG l fun r=>k (.c .any::r)
  | .ownr _ _ _ _ _ l'=>uG l fun r=>k (.c (.f (.row [] l'.length))::r)
  | .c (.bg true _ cs n)=>uG l fun r=>k (.c (.f (.row cs n))::r)
  | .tipr z F V M d l'=>uG l fun r=>k (.row z F V d l'::r)
  |y=>uG l fun r=>k (y::r)
theorem jc {β:Type 1} {r:β}: ∀ {l:List SC} {k:List SC->Option β},uG l k=some r-> ∃ l',aU l'=(aU l).map aa.aQ/\k l'=some r
 |[],k,h=>⟨[],rfl,h⟩
 |x::l,k,h=>by
  unfold uG at h;split at h
  ·obtain ⟨l',h1,h2⟩:=jc h
   exact ⟨_,by simp only[aU,List.map_cons] at*;rw[h1];rfl,h2⟩
  ·obtain ⟨l',h1,h2⟩:=jc h
   exact ⟨_,by simp only[aU,List.map_cons] at*;rw[h1];rfl,h2⟩
  ·obtain ⟨l',h1,h2⟩:=jc h
   exact ⟨_,by simp only[aU,List.map_cons] at*;rw[h1];rfl,h2⟩
  ·obtain ⟨l',h1,h2⟩:=jc h
   exact ⟨_,by simp only[aU,List.map_cons] at*;rw[h1];rfl,h2⟩
  ·obtain ⟨l',h1,h2⟩:=jc h
   exact ⟨_,by simp only[aU,List.map_cons] at*;rw[h1];rfl,h2⟩
  ·rename_i hn0 hn4 hn3 hne hne2
   obtain ⟨l',h1,h2⟩:=jc h;refine ⟨_,?_,h2⟩;simp only[aU,List.map_cons] at*;rw[h1,← Jd];congr 1;cases x with
   |c x=>
    cases x with
    |bg q=>
     cases q with
     |true=>exact (hne _ _ _ rfl).elim
     |false=>exact (hn0 _ _ _ rfl).elim
    |mp=>exact (hn4 _ _ rfl).elim
    |_=>rfl
   |ownr=>exact (hn3 _ _ _ _ _ _ _ rfl).elim
   |tipr=>exact (hne2 _ _ _ _ _ _ _ rfl).elim
   |_=>rfl
theorem vd {l:List aa} {i:Nat} {y:aa} (h:l[i]? =some y):l.modify i aa.aQ=l.set i y.aQ:=by
 apply List.ext_getElem?;intro j;rw[List.getElem?_modify,List.getElem?_set];by_cases e:i=j
 ·subst e
  rw[h];have:=(List.getElem?_eq_some_iff.1 h).1;simp[this]
 ·simp[e]
theorem LS {l m:List aa} {i:Nat} {y:aa} (h:l[i]? =some y):(l++m)[i]? =some y:=by
 rw[List.getElem?_append_left (List.getElem?_eq_some_iff.1 h).1];exact h
theorem LR {l m:List aa} {i n:Nat} (h:i+n<=l.length):((l++m).drop i).take n=(l.drop i).take n:=by
 rw[List.drop_append_of_le_length (by omega),List.take_append_of_le_length (by rw[List.length_drop];omega)]
theorem gf {α:Type} {l:List α} {d:α} {i:Int} (h0:0<=i) (h1:i<l.length):l[i.toNat]? =some (l.getD i.toNat d):=by
 have:i.toNat<l.length:=by omega
 rw[List.getD_eq_getElem?_getD,List.getElem?_eq_getElem this];rfl
section
variable {P:Program} {ops:Array Oper} {s:St} {d:Option Tmp} {ty:TypeId} {pos:String} {af:Array Edge} {T:Tb} {r:SR} {H:SH}
def D9 (T:Tb) (tr:Bool) (H:SH) (t:Nat) (v:SV):Option SR:=
 match iD T.sz t with
 |some (false,_)=>match v with
  | .c (.c (.ptr b off))=>match nth H b with
   |some (some (.cells cs))=>match nth cs off with
    |some (.c (.bg false _ _ _))=>none
    |some (.c (.mp _ _))=>none
    |some (.ownr z F V M e l)=>match tr with
     |true=>gr cs off (.c (.f (.row [] l.length))) fun cs'=>gr H b (some (.cells cs')) fun H'=>some ⟨.c (.ownr z F V M e l),none,some H',.tk b,True⟩
     |false=>some ⟨.c (.c (.f (.row [] l.length))),none,none,.ld false b,True⟩
    |some (.c (.bg true z gs n))=>match tr with
     |true=>gr cs off (.c (.f (.row gs n))) fun cs'=>gr H b (some (.cells cs')) fun H'=>some ⟨.c (.c (.bg true z gs n)),none,some H',.tk b,True⟩
     |false=>some ⟨.c (.c (.f (.row gs n))),none,none,.ld false b,True⟩
    |some (.tipr z F V M e l)=>match tr with
     |true=>gr cs off (.row z F V e l) fun cs'=>gr H b (some (.cells cs')) fun H'=>some ⟨.c (.tipr z F V M e l),none,some H',.tk b,True⟩
     |false=>some ⟨.c (.row z F V e l),none,none,.ld false b,True⟩
    |some y=>match tr with
     |true=>some ⟨.c y,none,none,.ld true b,True⟩
     |false=>some ⟨.c y,none,none,.ld false b,True⟩
    |none=>none
   |_=>none
  | .c (.c (.ip cs off))=>match ou cs off with
   |some y=>some ⟨.c (.c (.f y)),none,none,.ip,True⟩
   |none=>none
  | .c (.elt z F V d l i k)=>match nth (V (l.getD i.toNat d)) k with
   |some y=>some ⟨.c y,none,none,.ip,(0<=i/\i<l.length)/\wL z F V⟩
   |none=>none
  | .c (.pel b z i k)=>match nth H b with
   |some (some (.bF z' F V M d l))=>match Nat.beq z z' with
    |true=>match nth (V (l.getD i.toNat d)) k with
     |some y=>match tr with
      |true=>none
      |false=>some ⟨.c y,none,none,.ld false b,(0<=i/\i<l.length)/\wL z' F V⟩
     |none=>none
    |false=>none
   |some (some (.elo z' F V M d l m))=>match Nat.beq z z' with
    |true=>match nth (V (l.getD i.toNat d)) k with
     |some y=>match tr with
      |true=>none
      |false=>some ⟨.c y,none,none,.ld false b,(0<=i/\i<l.length)/\wL z' F V⟩
     |none=>none
    |false=>none
   |some (some (.rws z' F V M d l h))=>match z with
    |1=>match k with
     |0=>match h with
      |none=>match tr with
       |true=>gr H b (some (.rws z' F V M d l (some (i,.c (.f (.row [] (l.getD i.toNat []).length)))))) fun H'=>some ⟨.c (.ownr z' F V M d (l.getD i.toNat [])),none,some H',.tk b,0<=i/\i<l.length⟩
       |false=>some ⟨.c (.c (.f (.row [] (l.getD i.toNat []).length))),none,none,.ld false b,0<=i/\i<l.length⟩
      |some (j,.c (.arr b' off m c))=>match tr with
       |true=>some ⟨.c (.c (.arr b' off m c)),none,none,.ld true b,(0<=i/\i<l.length)/\i=j⟩
       |false=>some ⟨.c (.c (.arr b' off m c)),none,none,.ld false b,(0<=i/\i<l.length)/\i=j⟩
      |some (j,.ownr z2 F2 V2 M2 d2 l2)=>match tr with
       |true=>gr H b (some (.rws z' F V M d l (some (i,.c (.f (.row [] l2.length)))))) fun H'=>some ⟨.c (.ownr z2 F2 V2 M2 d2 l2),none,some H',.tk b,(0<=i/\i<l.length)/\i=j⟩
       |false=>some ⟨.c (.c (.f (.row [] l2.length))),none,none,.ld false b,(0<=i/\i<l.length)/\i=j⟩
      |_=>none
     |_=>none
    |_=>none
   |_=>none
  |_=>none
 |some (true,n)=>match v with
  | .c (.c (.ptr b off))=>match nth H b with
   |some (some (.cells cs))=>match JU cs with
    |true=>C9 cs off n fun ds=>uG ds fun es=>match tr with
     |true=>some ⟨.agg es,none,none,.ld true b,True⟩
     |false=>some ⟨.agg es,none,none,.ld false b,True⟩
    |false=>none
   |_=>none
  | .c (.elt z F V d l i k)=>C9 (V (l.getD i.toNat d)) k n fun ds=>some ⟨.agg ds,none,none,.ip,(0<=i/\i<l.length)/\wL z F V⟩
  | .c (.pel b z i k)=>match nth H b with
   |some (some (.bF z' F V M d l))=>match Nat.beq z z' with
    |true=>match tr with
     |true=>none
     |false=>C9 (V (l.getD i.toNat d)) k n fun ds=>some ⟨.agg ds,none,none,.ld false b,(0<=i/\i<l.length)/\wL z' F V⟩
    |false=>none
   |some (some (.elo z' F V M d l m))=>match Nat.beq z z' with
    |true=>match tr with
     |true=>none
     |false=>C9 (V (l.getD i.toNat d)) k n fun ds=>some ⟨.agg ds,none,none,.ld false b,(0<=i/\i<l.length)/\wL z' F V⟩
    |false=>none
   |_=>none
  |_=>none
 |none=>none
theorem yY {α:Type} {z:Nat} {F:α->List ag} {V:α->List SC} {e:α} {l:List α} {i:Int} {k:Nat} {y:SC} (hV:wL z F V) (h0:0<=i/\i<l.length) (hy:nth (V (l.getD i.toNat e)) k=some y):
  ∃ fv,(l.flatMap F)[i.toNat*z+k]? =some fv/\y.den= .f fv:=by
 obtain ⟨hk,fv,h1,h2⟩:=hV.nth hy;exact ⟨fv,by rw[na F z (fun x=>(hV x).1) l _ k _ (gf h0.1 h0.2) hk,h1],h2⟩
theorem yX {α:Type} {z:Nat} {F:α->List ag} {V:α->List SC} {e:α} {l:List α} {i:Int} {k n:Nat} (hV:wL z F V) (h0:0<=i/\i<l.length) (hn:k+n<=(V (l.getD i.toNat e)).length):
  i.toNat*z+k+n<=(l.flatMap F).length/\(((l.flatMap F).drop (i.toNat*z+k)).take n).map aa.f=aU (((V (l.getD i.toNat e)).drop k).take n):=by
 obtain ⟨h1,h2⟩:=fJ F z (fun x=>(hV x).1) l i.toNat _ (gf (d:=e) h0.1 h0.2);obtain ⟨h3,h4⟩:=hV (l.getD i.toNat e);have h5:(V (l.getD i.toNat e)).length=z:=by rw[← eR,h4,List.length_map,h3]
 rw[h5] at hn;refine ⟨by omega,?_⟩;rw[← tj,h4,← h2,List.map_take,List.map_drop,List.map_take,List.map_drop];rw[List.drop_take,List.take_take,← List.drop_drop,Nat.min_eq_left (by omega)]
theorem HV (O:T.Ok P) (hH:s.H=aR H) {t:Nat} {x:Operand} {v:SV} (hx:s.ev x=v.den) (h:D9 T (el ops ⟨d,.load t x,ty,pos,af,none⟩) H t v=some r):mD P ops ⟨d,.load t x,ty,pos,af,none⟩ s r:=by
 intro rest R hp hk;unfold D9 at h
 split at h
 ·rename_i m hsz
  have ht:=O.FT hsz;split at h
  ·rename_i b off
   split at h
   ·rename_i cs hb
    have hb':s.H[b]? =some (some (aU cs)):=by rw[hH];exact dz hb
    split at h
    ·cases h
    ·cases h
    ·rename_i α z F V M e l hy
     have hy':=gU hy;split at h
     ·rename_i hf
      obtain ⟨h1,h2⟩:=b9 h;obtain ⟨h3,h4⟩:=b9 h2;injection h4 with h4;subst h4;refine jy hf ht hx hb' hy' ?_ hk;rw[gz,hH];congr 1;simp only[SB.den,aU,List.map_set];apply List.ext_getElem?;intro j;have h5:cs[off]? =some (SC.ownr z F V M e l):=by rw[← gV];exact hy
      rw[List.getElem?_modify,List.getElem?_set,List.length_map];by_cases e:off=j
      ·subst e
       rw[List.getElem?_map,h5];simp[h1,SC.den,aa.aQ]
      ·simp[e]
     ·rename_i hf
      injection h with h;subst h;exact jx hf ht hx hb' hy' rfl hk
    ·rename_i z gs n hy
     have hy':=gU hy;split at h
     ·rename_i hf
      obtain ⟨h1,h2⟩:=b9 h;obtain ⟨h3,h4⟩:=b9 h2;injection h4 with h4;subst h4;refine jy hf ht hx hb' hy' ?_ hk;rw[gz,hH];congr 1;simp only[SB.den,aU,List.map_set];apply List.ext_getElem?;intro j;have h5:cs[off]? =some (SC.c (.bg true z gs n)):=by rw[← gV];exact hy
      rw[List.getElem?_modify,List.getElem?_set,List.length_map];by_cases e:off=j
      ·subst e
       rw[List.getElem?_map,h5];simp[h1,SC.den,aa.aQ]
      ·simp[e]
     ·rename_i hf
      injection h with h;subst h;exact jx hf ht hx hb' hy' rfl hk
    ·rename_i α z F V M e l hy
     have hy':=gU hy;split at h
     ·rename_i hf
      obtain ⟨h1,h2⟩:=b9 h;obtain ⟨h3,h4⟩:=b9 h2;injection h4 with h4;subst h4;refine jy hf ht hx hb' hy' ?_ hk;rw[gz,hH];congr 1;simp only[SB.den,aU,List.map_set];apply List.ext_getElem?;intro j;have h5:cs[off]? =some (SC.tipr z F V M e l):=by rw[← gV];exact hy
      rw[List.getElem?_modify,List.getElem?_set,List.length_map];by_cases e:off=j
      ·subst e
       rw[List.getElem?_map,h5];simp[h1,SC.den,aa.aQ]
      ·simp[e]
     ·rename_i hf
      injection h with h;subst h;exact jx hf ht hx hb' hy' rfl hk
    ·rename_i y hn0 hn4 hn3 hne hne2 hy
     have hfl:=ra (lq (x:=y) (fun z gs n e=>hn0 z gs n e) (fun q es e=>hn4 q es e) (fun α z F V M d l e=>hn3 α z F V M d l e) (fun z gs n e=>hne z gs n e) (fun α z F V M d l e=>hne2 α z F V M d l e));split at h
     ·rename_i hf
      injection h with h;subst h;refine eD ht hx hb' (gU hy) hfl ?_;rw[hf];exact hk
     ·rename_i hf
      injection h with h;subst h;refine eD ht hx hb' (gU hy) hfl ?_;rw[hf];exact hk
    ·cases h
   ·cases h
  ·rename_i cs off
   split at h
   ·rename_i y hy
    rw[gT] at hy;injection h with h;subst h;exact tV ht hx hy hk
   ·cases h
  ·rename_i α z F V e l i k
   split at h
   ·rename_i y hy
    injection h with h;subst h;obtain ⟨h0,hV⟩:=hp;obtain ⟨fv,h1,h2⟩:=yY hV h0 hy;refine tV ht hx h1 ?_;rw[← h2];exact hk
   ·cases h
  ·rename_i b z i k
   split at h
   ·rename_i α z' F V M e l hb
    have hb':s.H[b]? =some (some ((l.flatMap F).map aa.f)):=by rw[hH];exact dz hb
    split at h
    ·rename_i hz
     have hz:=Nat.eq_of_beq_eq_true hz;subst hz;split at h
     ·rename_i y hy
      split at h
      ·cases h
      ·rename_i hf
       injection h with h;subst h;obtain ⟨h0,hV⟩:=hp;obtain ⟨fv,h1,h2⟩:=yY hV h0 hy;refine eD (y:= .f fv) ht hx hb' (by rw[List.getElem?_map,h1];rfl) rfl ?_;rw[hf,← h2];exact hk
     ·cases h
    ·cases h
   ·rename_i α z' F V M e l m hb
    have hb':s.H[b]? =some (some ((l.flatMap F).map aa.f++List.replicate m .any)):=by rw[hH];exact dz hb
    split at h
    ·rename_i hz
     have hz:=Nat.eq_of_beq_eq_true hz;subst hz;split at h
     ·rename_i y hy
      split at h
      ·cases h
      ·rename_i hf
       injection h with h;subst h;obtain ⟨h0,hV⟩:=hp;obtain ⟨fv,h1,h2⟩:=yY hV h0 hy;refine eD (y:= .f fv) ht hx hb' (LS (by rw[List.getElem?_map,h1];rfl)) rfl ?_;rw[hf,← h2];exact hk
     ·cases h
    ·cases h
   ·rename_i α z' F V M e l h' hb
    have hb':s.H[b]? =some (some (fY z' F l h')):=by rw[hH];exact dz hb
    split at h
    ·split at h
     ·split at h
      ·split at h
       ·rename_i hf
        obtain ⟨h3,h4⟩:=b9 h;injection h4 with h4;subst h4;have hy':=vK (z:=z') (F:=F) hp.1 hp.2;have e1:i.toNat*1+0=i.toNat:=by omega
        refine jy hf ht hx hb' (off:=i.toNat*1+0) (by rw[e1];exact hy') ?_ hk;rw[gz,hH];congr 1;rw[e1];exact vd hy'
       ·rename_i hf
        injection h with h;subst h;have hy':=vK (z:=z') (F:=F) hp.1 hp.2;have e1:i.toNat*1+0=i.toNat:=by omega
        exact jx (y:= .bg false z' ((l.getD i.toNat []).flatMap F) (l.getD i.toNat []).length) hf ht hx hb' (off:=i.toNat*1+0) (by rw[e1];exact hy') rfl hk
      ·split at h
       ·rename_i hf
        injection h with h;subst h;obtain ⟨h0,rfl⟩:=hp;have e1:i.toNat*1+0=i.toNat:=by omega
        refine eD (off:=i.toNat*1+0) ht hx hb' (by rw[e1];exact lD h0.1 h0.2) (by rfl) ?_;rw[hf];exact hk
       ·rename_i hf
        injection h with h;subst h;obtain ⟨h0,rfl⟩:=hp;have e1:i.toNat*1+0=i.toNat:=by omega
        refine eD (off:=i.toNat*1+0) ht hx hb' (by rw[e1];exact lD h0.1 h0.2) (by rfl) ?_;rw[hf];exact hk
      ·split at h
       ·rename_i hf
        obtain ⟨h3,h4⟩:=b9 h;injection h4 with h4;subst h4;obtain ⟨h0,rfl⟩:=hp;rename_i z2 F2 V2 M2 d2 l2 _;have hy':=lD (z:=z') (F:=F) (x:= .ownr z2 F2 V2 M2 d2 l2) h0.1 h0.2;have e1:i.toNat*1+0=i.toNat:=by omega
        refine jy hf ht hx hb' (off:=i.toNat*1+0) (by rw[e1];exact hy') ?_ hk;rw[gz,hH];congr 1;rw[e1,vd hy'];exact xL (x:= .c (.f (.row [] _)))
       ·rename_i hf
        injection h with h;subst h;obtain ⟨h0,rfl⟩:=hp;rename_i z2 F2 V2 M2 d2 l2 _;have e1:i.toNat*1+0=i.toNat:=by omega
        exact jx (y:= .bg false z2 (l2.flatMap F2) l2.length) hf ht hx hb' (off:=i.toNat*1+0) (by rw[e1];exact lD (x:= .ownr z2 F2 V2 M2 d2 l2) h0.1 h0.2) rfl hk
      ·cases h
     ·cases h
    ·cases h
   ·cases h
  ·cases h
 ·rename_i n hsz
  have ht:=O.FT hsz;split at h
  ·rename_i b off
   split at h
   ·rename_i cs hb
    have hb':s.H[b]? =some (some (aU cs)):=by rw[hH];exact dz hb
    split at h
    ·rename_i hnm
     obtain ⟨h1,h2⟩:=nX h;obtain ⟨es,h3,h4⟩:=jc h2;have hc:((aU cs).drop off |>.take n).map aa.aQ=aU es:=by rw[tj,h3]
     split at h4
     ·rename_i hf
      injection h4 with h4;subst h4;refine jY ht hx hb' ⟨by rw[eR];exact h1,nv hnm⟩ hc ?_;rw[hf];exact hk
     ·rename_i hf
      injection h4 with h4;subst h4;refine jY ht hx hb' ⟨by rw[eR];exact h1,nv hnm⟩ hc ?_;rw[hf];exact hk
    ·cases h
   ·cases h
  ·rename_i α z F V e l i k
   obtain ⟨h1,h2⟩:=nX h;injection h2 with h2;subst h2;obtain ⟨h0,hV⟩:=hp;obtain ⟨h3,h4⟩:=yX hV h0 h1;exact CH ht hx h3 h4 hk
  ·rename_i b z i k
   split at h
   ·rename_i α z' F V M e l hb
    have hb':s.H[b]? =some (some ((l.flatMap F).map aa.f)):=by rw[hH];exact dz hb
    split at h
    ·rename_i hz
     have hz:=Nat.eq_of_beq_eq_true hz;subst hz;split at h
     ·cases h
     ·rename_i hf
      obtain ⟨h1,h2⟩:=nX h;injection h2 with h2;subst h2;obtain ⟨h0,hV⟩:=hp;obtain ⟨h3,h4⟩:=yX hV h0 h1;refine jY (cs:=aU (((V (l.getD i.toNat e)).drop k).take n)) ht hx hb' ⟨by rw[List.length_map];exact h3,zr _⟩ ?_ ?_
      ·rw[← h4,← List.map_drop,← List.map_take,List.map_map]
       rfl
      ·rw[hf];exact hk
    ·cases h
   ·rename_i α z' F V M e l m hb
    have hb':s.H[b]? =some (some ((l.flatMap F).map aa.f++List.replicate m .any)):=by rw[hH];exact dz hb
    split at h
    ·rename_i hz
     have hz:=Nat.eq_of_beq_eq_true hz;subst hz;split at h
     ·cases h
     ·rename_i hf
      obtain ⟨h1,h2⟩:=nX h;injection h2 with h2;subst h2;obtain ⟨h0,hV⟩:=hp;obtain ⟨h3,h4⟩:=yX hV h0 h1;refine jY (cs:=aU (((V (l.getD i.toNat e)).drop k).take n)) ht hx hb' ⟨by rw[List.length_append,List.length_map];omega,ji _ _⟩ ?_ ?_
      ·rw[LR (by rw[List.length_map];exact h3),← h4,← List.map_drop,← List.map_take,List.map_map]
       rfl
      ·rw[hf];exact hk
    ·cases h
   ·cases h
  ·cases h
 ·cases h
end
end Go.Proofs.YtjkeeocnekggfaaGreat.Av
