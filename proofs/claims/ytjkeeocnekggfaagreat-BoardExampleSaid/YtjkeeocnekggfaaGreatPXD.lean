
import Derived.Test.YtjkeeocnekggfaaGreatPXC
set_option linter.unusedVariables false
set_option linter.unusedSimpArgs false
set_option maxRecDepth 4000
set_option maxHeartbeats 4000000
namespace Go.Proofs.YtjkeeocnekggfaaGreat.Av
def Gc (P:Program) (fn:Func) (r:ad) (H':List (Option (List aa))) (e:bI) (s:St):Prop:= ∃ r0,Nx P fn r0 H' e s/\r0.aQ=r
theorem JX {P:Program} {D:Array Oper->St->(St->Prop)->Prop} (hD:oH P D) {f:FuncId} {fn:Func} {c:Code} {args:List ad} {H:List (Option (List aa))} {Q:ad->List (Option (List aa))->Prop} (hf:P.funcs[f]? =some fn) (hb:fn.body=some c) (hn:(fn.name== "runtime.NumGoroutine")=false) (hca:args.length<=fn.ntmps) (hcode:codeOk fn.ntmps c=true)
  (hres: ∀ r H',Q r H'->Flat r=true/\r.ok H'.length=true/\H.length<=H'.length/\H'.all (okB H'.length)=true) {s0:St} (hs0:di H.length (entry fn args H) s0) (h:W P D H.length c s0 fun e s=> ∃ r H',Q r H'/\Gc P fn r H' e s):Er P f args H Q:=by
 refine ⟨⟨fn,hf,by rw[hb];rfl,hn⟩,fun r H' hq=>⟨cG (hres r H' hq).1,(hres r H' hq).2.1,(hres r H' hq).2.2.1⟩,fun w κ ρ vals hs hr hok hH=> ?_⟩;obtain ⟨κ2,hR2,hF2⟩:=hs0.2 _ _ _ _ (q8 hca hs hr hok hH);refine calls_of_wp hf hb (wp_mono (gI (N:=fn.ntmps) hD c _ _ _ w κ2 ρ hcode h ⟨hR2,hF2,fun _ _=>rfl,hs0.1,oR hca hs⟩) fun e a' w' hq=> ?_);have key: ∀ {ex:bI} {s:St} {κ':Nat->BK} {ρ':Nat->Nat},(∃ r H',Q r H'/\Gc P fn r H' ex s)->In fn.ntmps H.length w κ ρ s a' w' κ' ρ'->a'.defers=[]/\ ∃ v,(results fn a'.tmps).run P w'= .ok v w'/\ ∃ r H',Q r H'/\ ∃ v' κ'' ρ'',Ending.returned v= .returned v'/\(∀ l,bM w' κ'' ρ'' l r v')/\we H' w' κ'' ρ''/\Fr w κ w' κ''/\ ∀ b,b<H.length->ρ'' b=ρ b:=by
  rintro ex s κ' ρ' ⟨r,H',hq,r0,⟨_,ys,h1,h2,h3⟩,hd⟩ hI;obtain ⟨hflat,hrok,hlen,hHok⟩:=hres r H' hq;obtain ⟨v,vs,k1,k2,k3,k4,k5⟩:=nB hI.rel h1;refine ⟨hI.rel.defers,v,k1,r,H',hq,v,κ',ρ',rfl,fun l=> ?_,⟨fun b cs hb'=> ?_,fun b cs hb' x hx=> ?_⟩,hI.fr,hI.rho⟩
  ·rw[k2,← hd,← h2];exact bM.aQ (l:=l) (vq k3 k4 l)
  ·rw[← h3,List.getElem?_take] at hb'
   split at hb'
   ·exact hI.rel.heap.dk b cs hb'
   ·cases hb'
  ·have:=List.all_eq_true.1 hHok (some cs) (List.mem_of_getElem? hb')
   exact List.all_eq_true.1 this x hx
 cases e with
 |normal=>obtain ⟨s,κ',ρ',hk,hI⟩:=hq;exact key hk hI
 |ret=>obtain ⟨s,κ',ρ',hk,hI⟩:=hq;exact key hk hI
 |exit id=>obtain ⟨s,κ',ρ',⟨r,H',_,r0,hk,_⟩,hI⟩:=hq;exact hk.1.elim
 |goto l=>exact hq
 |panic ch=>exact False.elim hq
 |outgrown=>exact False.elim hq
def Lt (P:Program) (f:FuncId) (args:List SV) (H:SH) {γ:Type} (I:γ->Prop) (rs:γ->SV) (Hs:γ->SH):Prop:=Er P f (args.map SV.den) (aR H) fun r H'=> ∃ x,I x/\r=(rs x).den/\H'=aR (Hs x)
def Ip (P:Program) (fn:Func) {γ:Type} (I:γ->Prop) (rs:γ->SV) (Hs:γ->SH) (e:bI) (s:St):Prop:= ∃ x,I x/\Gc P fn (rs x).den (aR (Hs x)) e s
theorem ub {P:Program} (hm:P.follows .mixedOrders=true) {f:FuncId} {fn:Func} {c:Code} {args:List SV} {H:SH} {γ:Type} {I:γ->Prop} {rs:γ->SV} {Hs:γ->SH} (hf:P.funcs[f]? =some fn) (hb:fn.body=some c) (hn:(fn.name== "runtime.NumGoroutine")=false) (hca:args.length<=fn.ntmps) (hcode:codeOk fn.ntmps c=true)
  (hres: ∀ x,I x->pY (rs x)=true/\Lm (Hs x).length (rs x)=true/\H.length<=(Hs x).length/\jN (Hs x).length (Hs x)=true) {n0:Nat} (h0:H.length=n0) (h:W P (DR P) n0 c (SS (cu 0 args) H) (Ip P fn I rs Hs)):Lt P f args H I rs Hs:=by
 subst h0;refine JX (tN hm) hf hb hn (by simpa using hca) hcode (fun r H' hq=> ?_) (pk (args:=args.map SV.den) (H:=aR H)) ?_
 ·obtain ⟨x,hx,rfl,rfl⟩:=hq
  obtain ⟨h1,h2,h3,h4⟩:=hres x hx;exact ⟨kT h1,by rw[aI];exact oa h2,by rw[aI,aI];exact h3,by rw[aI];exact da h4⟩
 ·rw[aI,zL]
  refine jz (K:=Ip P fn I rs Hs) (K':=Ip P fn I rs Hs) _ _ _ _ (fun e s hk=> ?_) h (fun ops s K K' hK hd=>yb ops s K K' hK hd);obtain ⟨x,hx,hk⟩:=hk;exact ⟨_,_,⟨x,hx,rfl,rfl⟩,hk⟩
theorem Pt {P:Program} {f:FuncId} {args:List ad} {H H':List (Option (List aa))} {r:ad} (h:Er P f args H fun a b=>a=r/\b=H'):Ok P f args H r H':=by
 obtain ⟨h1,h2,h3⟩:=h.res r H' ⟨rfl,rfl⟩;refine ⟨h.fn,h1,h2,h3,fun w κ ρ vals k1 k2 k3 k4=>(h.run w κ ρ vals k1 k2 k3 k4).mono ?_⟩;rintro e w' ⟨_,_,⟨rfl,rfl⟩,k⟩;exact k
theorem Iz {P:Program} (hm:P.follows .mixedOrders=true) {f:FuncId} {fn:Func} {c:Code} {args:List SV} {r:SV} {H H':SH} (hf:P.funcs[f]? =some fn) (hb:fn.body=some c) (hn:(fn.name== "runtime.NumGoroutine")=false) (hca:args.length<=fn.ntmps) (hcode:codeOk fn.ntmps c=true)
  (hflat:pY r=true) (hrok:Lm H'.length r=true) (hlen:H.length<=H'.length) (hHok:jN H'.length H'=true) {n0:Nat} (h0:H.length=n0) (h:W P (DR P) n0 c (SS (cu 0 args) H) (Gc P fn r.den (aR H'))):cd P f args H r H':=by
 have key:Lt P f args H (fun _:Unit=>True) (fun _=>r) (fun _=>H'):=ub hm hf hb hn hca hcode (fun _ _=>⟨hflat,hrok,hlen,hHok⟩) h0 (jz (K:=Gc P fn r.den (aR H')) (K':=Ip P fn (fun _:Unit=>True) (fun _=>r) (fun _=>H')) _ _ _ _ (fun e s hk=>⟨(),trivial,hk⟩) h (fun ops s K K' hK hd=>yb ops s K K' hK hd));refine Pt ⟨key.fn,fun a b e=> ?_,fun w κ ρ vals k1 k2 k3 k4=>(key.run w κ ρ vals k1 k2 k3 k4).mono ?_⟩
 ·obtain ⟨rfl,rfl⟩:=e
  exact key.res _ _ ⟨(),trivial,rfl,rfl⟩
 ·rintro e w' ⟨_,_,⟨_,_,rfl,rfl⟩,k⟩
  exact ⟨_,_,⟨rfl,rfl⟩,k⟩
theorem Ew {P:Program} {ops:Array Oper} {rest:List Oper} {d:Option Tmp} {ty:TypeId} {pos:String} {af:Array Edge} {K:St->Prop} {l:SL} {H:SH} {c:Call} {f:FuncId} {vs ws:List SV} {Hs Gs:SH} (bs:List Nat) {γ:Type} {I:γ->Prop} {rs:γ->SV} {Hs':γ->SH} (hO:Lt P f vs Hs I rs Hs')
  (hc:cf ⟨d,.call c,ty,pos,af,none⟩=some (f,c.args.toList)) (ha:uj (m6 l) c.args.toList=some ws) (hv:xG (jn H bs) vs=some ws) (hg:xf H bs=some Gs) (hr1:fU (jn H bs) Hs=some Gs) (hn:ru bs=true) (h4:zv Hs.length vs=true) (h5:jN Hs.length Hs=true)
  (h: ∀ x,I x-> ∃ Gs' r' l' H',fU (jn H bs) (Hs' x)=some Gs'/\BW (jn H bs) (rs x)=some r'/\jN (Hs' x).length (Hs' x)=true/\BL H bs Gs' (fun H'=>some ⟨[],[],H',.plain (fun _=>True),True⟩)=some ⟨[],[],H',.plain (fun _=>True),True⟩/\(match d with|some d=>some ((d,SE.v r')::l)|none=>some l)=some l'/\WR P ops rest (SS l' H') (.plain K)):WR P ops (⟨d,.call c,ty,pos,af,none⟩::rest) (SS l H) (.plain K):=by
 obtain ⟨g1,g2⟩:=n8 hg;have hlen: ∀ X:SH,(aR X).length=X.length:=aI;have hSH:(SS l H).H=aR H:=bY _ _;refine ⟨.inr (.inl ⟨au rfl,f,c.args.toList,hc,bs,vs.map SV.den,aR Hs,_,hO,n9 hn,fun b hb=> ?_,?_,?_,?_,?_,?_⟩)⟩
 ·rw[hSH,hlen];exact g2 b hb
 ·rw[hSH,hlen,dv hr1];exact g1.symm
 ·rw[hlen];exact List.all_eq_true.1 (jO h4)
 ·rw[hlen];exact da h5
 ·rw[hSH,hlen,lz hv,← mU (s:=SS l H) (fun x _ v hv=>cm hv) ha]
  exact List.map_congr_left fun x _=>(ad.gh _).symm
 ·rintro r Hs2 ⟨x,hx,rfl,rfl⟩
  obtain ⟨Gs',r',l',H',k1,k2,k3,k4,k5,k6⟩:=h x hx;obtain ⟨H2,hP1,hP2⟩:=tF k4;injection hP1 with hP1;injection hP1 with _ _ hP1;subst hP1;refine ⟨by rw[hlen];exact da k3,?_⟩;rw[hSH,hlen,dv k1,← hP2,ly k2];have e:SS l' H2=(SS l H2).put d r'.den:=by
   split at k5<;>injection k5 with k5<;>subst k5<;>rfl
  have e2:(({ (SS l H) with H:=aR H2 }:St).put d r'.den)=SS l' H2:=by
   rw[e];rw[← eK (H':=H2)];rfl
  rw[e2];exact k6.out
section
variable {s:St} {a:Act} {w:World} {κ:Nat->BK} {ρ:Nat->Nat}
theorem tI {H:List (Option (List aa))} {b b':Nat} {x:List aa} {y:List aa} (h:(H.set b (some x))[b']? =some (some y)):(b'=b/\y=x)\/(b'≠b/\H[b']? =some (some y)):=jJ h
theorem BC (h:Rel s a w κ ρ) {b i sz len:Nat} {cs:List ag} {cells:List aa} (hb:s.H[b]? =some (some cells)) (hi:cells[i]? =some (.bg false sz cs len)) (h0:0<len):
    ∃ cap κ' ρ',len<=cap/\Rel { s with H:=s.H.set b (some (cells.set i (.arr s.H.length 0 len cap)))++[some (cs.map aa.f++List.replicate (cap*sz-cs.length) .any)] } a w κ' ρ'/\Fr w κ w κ'/\ ∀ b',b'<s.H.length->ρ' b'=ρ b':=by
  have hB:=h.heap.dk b _ hb;obtain ⟨c0,e0,q1,q2,q3⟩:=hB.np hi (fun _ _ e=>by cases e);obtain ⟨hil,hie⟩:=List.getElem?_eq_some_iff.1 hi;have hic:i<c0.size:=by omega
  have hv:=q3 i hil hic;rw[hie] at hv
  obtain ⟨g,cap,hv,hT⟩|⟨_,e,_⟩:=hv
  rotate_left
  · omega
  have hlt:=yc hb;refine ⟨cap,dJ κ g (.wr s.H.length),dJ ρ s.H.length g,hT.le,?_⟩;have hown:=hT.own;have m:Mv (· =g) s.H.length w κ ρ w (dJ κ g (.wr s.H.length)) (dJ ρ s.H.length g):=
    ⟨rfl,rfl,rfl,Nat.le_refl _,fun b hb=>aw _ _ (by omega),fun j _ hj=>⟨rfl,aw _ _ hj⟩,fun _ _ _ _ _ _ hx=>hx,
     fun j n _ hj hf=>by subst hj;rw[aG];rw[hown] at hf;exact hf,fun j n hj=>by subst hj;rw[hown];intro e;cases e⟩
  have hR:=h.Fu hb hi (fun _ _ e=>by cases e) m hown;obtain ⟨c1,e1,p1,p2⟩:=hT.dk;have hcut:=hT.cut;have hroom:cs.length<=cap*sz:=by rw[hcut];exact Nat.mul_le_mul_right _ hT.le
  have hlen2:(s.H.set b (some (cells.set i (.arr s.H.length 0 len cap)))++[some (cs.map aa.f++List.replicate (cap*sz-cs.length) aa.any)]).length=s.H.length+1:=by simp
  refine ⟨⟨hR.defers,hR.slot,hR.out,fun j=>ad.fT (n:=s.H.length) (by show _<=List.length _;rw[hlen2];omega) _ (h.ok j),⟨fun b' ds hb'=> ?_,fun b' ds hb' x hx=> ?_⟩⟩,m.fr,fun b' hb'=>aw _ _ (by omega)⟩
  · have hb':(s.H.set b (some (cells.set i (.arr s.H.length 0 len cap)))++[some (cs.map aa.f++List.replicate (cap*sz-cs.length) aa.any)])[b']? =some (some ds):=hb'
    rcases Nat.lt_or_ge b' s.H.length with hlt'|hge
    · rw[List.getElem?_append_left (by simpa using hlt')] at hb'
      rcases tI hb' with ⟨rfl,rfl⟩|⟨hne,hb2⟩
      · have hB2:=hR.heap.dk b' _ (show (dT s.H b' _)[b']? =_ by unfold dT;rw[List.getElem?_set_self hlt])
        refine ⟨hB2.own,.inl ?_⟩;obtain ⟨c2,e2,r1,r2,r3⟩:=hB2.np (i:=i) (y:= .f (.row [] len)) (by rw[List.getElem?_modify,hi];simp[aa.aQ]) (fun _ _ e=>by cases e);refine ⟨c2,e2,r1,by simpa using r2,fun j hj hj'=> ?_⟩;rw[List.length_set] at hj
        rw[List.getElem_set];split
        · rename_i e
          subst e;have r1':w.heap[ρ b']? =some (.cells c2 e2 (0,0)):=by rw[← r1];rw[aw _ _ (by omega)]
          rw[q1] at r1';injection r1' with r1';injection r1' with e3 _ _;subst e3;show c0[i]=_
          rw[hv,aG]
        · rename_i e
          have:=r3 j (by simpa using hj) hj';rw[List.getElem_modify,if_neg e] at this
          exact this
      · exact hR.heap.dk b' ds (show (dT s.H b _)[b']? =_ by unfold dT;rw[List.getElem?_set_ne (fun e=>hne e.symm)];exact hb2)
    · have hbe:b'=s.H.length:=by
        rcases Nat.lt_or_ge b' (s.H.length+1) with k|k
        · omega
        · rw[List.getElem?_eq_none (by rw[hlen2];exact k)] at hb';cases hb'
      subst hbe;rw[List.getElem?_append_right (by simp)] at hb';simp at hb';subst hb';refine ⟨by rw[aG,aG],.inl ⟨c1,e1,by rw[aG];exact p1,by simp;omega,fun j hj hj'=> ?_⟩⟩;by_cases hjl:j<cs.length
      · rw[List.getElem_append_left (by simpa using hjl),List.getElem_map]
        obtain ⟨x,hx,hr⟩:=hT.cell j hjl;have:c1[j]=x:=by
          simp only[World.cell?,p1,Nat.zero_add] at hx;simpa[hj'] using hx
        rw[this];exact hr.grow m.grow
      · rw[List.getElem_append_right (by simpa using hjl),List.getElem_replicate]
        trivial
  · have hb':(s.H.set b (some (cells.set i (.arr s.H.length 0 len cap)))++[some (cs.map aa.f++List.replicate (cap*sz-cs.length) aa.any)])[b']? =some (some ds):=hb'
    show x.ok (List.length _)=true;rw[hlen2];rcases Nat.lt_or_ge b' s.H.length with hlt'|hge
    · rw[List.getElem?_append_left (by simpa using hlt')] at hb'
      rcases tI hb' with ⟨rfl,rfl⟩|⟨hne,hb2⟩
      · rcases List.mem_or_eq_of_mem_set hx with hx|rfl
        · exact aa.fT (by omega) _ (h.heap.ok b' cells hb x hx)
        · simp[aa.ok]
      · exact aa.fT (by omega) _ (h.heap.ok b' ds hb2 x hx)
    · have hbe:b'=s.H.length:=by
        rcases Nat.lt_or_ge b' (s.H.length+1) with k|k
        · omega
        · rw[List.getElem?_eq_none (by rw[hlen2];exact k)] at hb';cases hb'
      subst hbe;rw[List.getElem?_append_right (by simp)] at hb';simp at hb';subst hb';rcases List.mem_append.1 hx with hx|hx
      · obtain ⟨y,_,rfl⟩:=List.mem_map.1 hx;rfl
      · rw[(List.mem_replicate.1 hx).2];rfl
end
theorem x7 {n0:Nat} {s:St} {b b0 i0 len cap sz:Nat} (q:Bool) {fs:List ag} {pad cs:List aa} (h0:n0<=s.H.length) (hne:b≠b0) (hb:s.H[b]? =some (some (fs.map aa.f++pad))) (hp0:gE (fs.map aa.f++pad)=true) (hb0:s.H[b0]? =some (some cs)) (hi0:cs[i0]? =some (.arr b 0 len cap)) (hc:len<=cap) (hl:fs.length=len*sz) (hp:(fs.map aa.f++pad).length=cap*sz):
  di n0 s { s with H:=(s.H.set b none).set b0 (some (cs.set i0 (.bg q sz fs len))) }:=by
 have hlen:((s.H.set b none).set b0 (some (cs.set i0 (.bg q sz fs len)))).length=s.H.length:=by simp
 refine ⟨by rw[hlen];exact h0,fun a w κ ρ hR=> ?_⟩;have hB:=hR.heap.dk b _ hb;have ho:=hB.own;have hlie:=hB.JE hp0;obtain ⟨cB,eB,hB1,hB2,hB3⟩:=hlie;have hlt:ρ b<w.heap.size:=jL hB1;have hG:fu w κ w (dJ κ (ρ b) (.bg (tE q fs.length) (.cell b0 i0))):=⟨Nat.le_refl _,fun _ _ _ _ _ h=>h,fun g n hg hf=>by
  by_cases e:g=ρ b
  ·subst e
   rw[ho] at hf;rw[aG];exact Nat.le_trans hf (Nat.zero_le _)
  ·rw[aw _ _ e];exact hf⟩
 have hK: ∀ l,yd w κ w (dJ κ (ρ b) (.bg (tE q fs.length) (.cell b0 i0))) l l:=fun l=>⟨hG,fun g n hg hk=>⟨by
  rw[aw _ _ (fun e=>by rw[e,ho] at hk;cases hk)];exact hk,rfl⟩⟩
 have hF:Fr w κ w (dJ κ (ρ b) (.bg (tE q fs.length) (.cell b0 i0))):=⟨rfl,rfl,rfl,Nat.le_refl _,fun g n hg hk=>⟨by
  rw[aw _ _ (fun e=>by rw[e,ho] at hk;cases hk)];exact hk,rfl⟩,hG⟩
 have dT: ∀ (b':Nat) (cs':List aa),((s.H.set b none).set b0 (some (cs.set i0 (.bg q sz fs len))))[b']? =some (some cs')->b'≠b/\((b'≠b0/\s.H[b']? =some (some cs'))\/(b'=b0/\cs'=cs.set i0 (.bg q sz fs len))):=fun b' cs' h=>by
  by_cases e0:b0=b'
  ·subst e0
   rw[List.getElem?_set] at h;simp at h;exact ⟨fun e=>hne e.symm,.inr ⟨rfl,h.2.symm⟩⟩
  ·rw[List.getElem?_set_ne e0] at h
   by_cases e:b=b'
   ·subst e
    rw[List.getElem?_set] at h;simp at h
   ·rw[List.getElem?_set_ne e] at h
    exact ⟨fun h=>e h.symm,.inl ⟨fun h=>e0 h.symm,h⟩⟩
 have hT:j5 w (dJ κ (ρ b) (.bg (tE q fs.length) (.cell b0 i0))) (.cell b0 i0) q sz fs len (ρ b) cap:=⟨fun j hj=>by
  obtain ⟨v,k1,k2⟩:=hB.cell (hB.JE hp0) j (by simp;omega);rw[List.getElem_append_left (by simpa using hj),List.getElem_map] at k2;exact ⟨v,by rw[Nat.zero_add];exact k1,cy.grow hG k2⟩,hlt,hl,aG _ _ _,hc,cB,eB,hB1,by rw[hB2,hp]⟩
 refine ⟨_,⟨hR.defers,fun i hi'=>bM.eC hG (fun _ _=>rfl) (hR.ok i) (fun _ _ _ _ _=>hK _) (hR.slot i hi'),hR.out,fun i=>by rw[hlen];exact hR.ok i,⟨fun b' cs' hb'=> ?_,fun b' cs' hb' x hx=> ?_⟩⟩,hF⟩
 ·obtain ⟨hnb,⟨hn0,hb2⟩|⟨rfl,rfl⟩⟩:=dT b' cs' hb'
  ·obtain ⟨k0,hobj⟩:=hR.heap.dk b' cs' hb2
   refine ⟨?_,?_⟩
   ·rw[aw _ _ (fun e=>by rw[e,ho] at k0;injection k0 with k0;exact hnb k0.symm)]
    exact k0
   ·rcases hobj with ⟨c,e,k1,k2,k3⟩|hM
    ·exact .inl ⟨c,e,k1,k2,fun i hi hi'=>bx.eC hG (fun _ _=>rfl) (hR.heap.ok b' cs' hb2 _ (List.getElem_mem hi)) (fun _ _ _ _ _=>hK _) (k3 i hi hi')⟩
    ·exact .inr (hM.mv hG rfl)
  ·have hBb:=hR.heap.dk b' cs hb0
   have k0:=hBb.own;obtain ⟨c,e,k1,k2,k3⟩:=hBb.np hi0 (fun _ _ e=>by cases e);refine ⟨?_,.inl ⟨c,e,k1,by rw[List.length_set];exact k2,fun i hi hi'=> ?_⟩⟩
   ·rw[aw _ _ (fun e=>by rw[e,ho] at k0;injection k0 with k0;exact hnb k0.symm)]
    exact k0
   ·rw[List.length_set] at hi
    rw[List.getElem_set];split
    ·rename_i e1
     subst e1;have h3:=k3 i0 hi hi';have e2:cs[i0]= .arr b 0 len cap:=by
      rw[List.getElem?_eq_getElem hi] at hi0;exact Option.some.inj hi0
     rw[e2] at h3;have h3:c[i0]= .slice (some ⟨ρ b,0,none⟩) len cap:=h3;rw[h3];exact .inl ⟨ρ b,cap,rfl,hT⟩
    ·exact bx.eC hG (fun _ _=>rfl) (hR.heap.ok b' cs hb0 _ (List.getElem_mem hi)) (fun _ _ _ _ _=>hK _) (k3 i hi hi')
 ·rw[hlen]
  obtain ⟨hnb,⟨hn0,hb2⟩|⟨rfl,rfl⟩⟩:=dT b' cs' hb'
  ·exact hR.heap.ok b' cs' hb2 x hx
  ·rcases List.mem_or_eq_of_mem_set hx with h|h
   ·exact hR.heap.ok b' cs hb0 x h
   ·rw[h];rfl
def wv (L:Loc->Option Nat) (κ:Nat->BK) (g:Nat):BK:=
 match κ g with
 | .bg n l=>match L l with
  |some k=> .bg (max n k) l
  |none=> .bg n l
 | .lock n=> .lock n
 | .wr b=> .wr b
theorem vw {L:Loc->Option Nat} {κ:Nat->BK} {g n:Nat} {l:Loc} (h:κ g= .bg n l):wv L κ g=match L l with|some k=> .bg (max n k) l|none=> .bg n l:=by
 unfold wv;rw[h]
theorem xF {L:Loc->Option Nat} {κ:Nat->BK} {g:Nat} {n:Option Nat} (h:κ g= .lock n):wv L κ g= .lock n:=by
 unfold wv;rw[h]
theorem zC {L:Loc->Option Nat} {κ:Nat->BK} {g b:Nat} (h:κ g= .wr b):wv L κ g= .wr b:=by
 unfold wv;rw[h]
theorem vY {n0:Nat} {s s2:St} (L:Loc->Option Nat) (h0:n0<=s.H.length) (hlen:s2.H.length=s.H.length)
  (hs: ∀ i,(L (.slot i)=none/\s2.sl i=s.sl i)\/ ∃ sz cs len,L (.slot i)=some (List.length cs)/\s.sl i= .c (.bg false sz cs len)/\s2.sl i= .c (.bg true sz cs len))
  (hH: ∀ b cs2,s2.H[b]? =some (some cs2)-> ∃ cs1,s.H[b]? =some (some cs1)/\cs1.length=cs2.length/\((∀ i,L (.cell b i)=none)/\cs2=cs1\/gE cs1=true/\ ∀ i (h:i<cs1.length) (h':i<cs2.length),(L (.cell b i)=none/\cs2[i]=cs1[i])\/ ∃ sz cs len,L (.cell b i)=some (List.length cs)/\cs1[i]= .bg false sz cs len/\cs2[i]= .bg true sz cs len)):
  di n0 s s2:=by
 refine ⟨by rw[hlen];exact h0,fun a w κ ρ hR=> ?_⟩;have hG:fu w κ w (wv L κ):=⟨Nat.le_refl _,fun _ _ _ _ _ h=>h,fun g n hg hf=>by
  cases hk:κ g with
  |lock m=>rw[xF hk];rw[hk] at hf;exact hf
  |wr b=>rw[zC hk];rw[hk] at hf;exact hf
  |bg m l=>
   rw[vw hk];rw[hk] at hf;split
   ·have hf:n<=m:=hf
    show n<=max m _;omega
   ·exact hf⟩
 have hK: ∀ l,L l=none->yd w κ w (wv L κ) l l:=fun l hl=>⟨hG,fun g n hg hk=>⟨by rw[vw hk,hl],rfl⟩⟩
 have hT: ∀ {l:Loc} {sz:Nat} {cs:List ag} {len:Nat} {v:Value},L l=some cs.length->bx w κ ρ l (.bg false sz cs len) v->bx w (wv L κ) ρ l (.bg true sz cs len) v:=fun {l sz cs len v} hl h=>by
  obtain ⟨g,cap,hv,hT⟩|h:=h
  rotate_left
  ·exact .inr h
  refine .inl ⟨g,cap,hv,fun i hi=> ?_,hT.lt,hT.cut,?_,hT.le,hT.dk⟩
  ·obtain ⟨x,hx,hr⟩:=hT.cell i hi
   exact ⟨x,hx,hr.grow hG⟩
  ·rw[vw hT.own,hl]
   simp[tE]
 refine ⟨wv L κ,⟨hR.defers,fun i hi'=> ?_,fun i hi=> ?_,fun i=> ?_,⟨fun b cs2 hb=> ?_,fun b cs2 hb x hx=> ?_⟩⟩,⟨rfl,rfl,rfl,Nat.le_refl _,fun g n hg hk=>⟨xF hk,rfl⟩,hG⟩⟩
 ·rcases hs i with ⟨hl,e⟩|⟨sz,cs,len,hl,e1,e2⟩
  ·rw[e]
   exact bM.eC hG (fun _ _=>rfl) (hR.ok i) (fun _ _ _ _ _=>hK _ hl) (hR.slot i hi')
  ·rw[e2]
   have:=hR.slot i hi';rw[e1] at this
   exact hT hl this
 ·rcases hs i with ⟨_,e⟩|⟨sz,cs,len,_,e1,_⟩
  ·rw[e];exact hR.out i hi
  ·rw[hR.out i hi] at e1;cases e1
 ·rw[hlen]
  rcases hs i with ⟨_,e⟩|⟨sz,cs,len,_,_,e2⟩
  ·rw[e];exact hR.ok i
  ·rw[e2];rfl
 ·obtain ⟨cs1,hb1,hl1,⟨hn,rfl⟩|⟨hok,hc⟩⟩:=hH b cs2 hb
  ·obtain ⟨k0,hobj⟩:=hR.heap.dk b cs2 hb1
   refine ⟨zC k0,?_⟩;rcases hobj with ⟨c,e,k1,k2,k3⟩|hM
   ·exact .inl ⟨c,e,k1,k2,fun i hi hi'=>bx.eC hG (fun _ _=>rfl) (hR.heap.ok b cs2 hb1 _ (List.getElem_mem hi)) (fun _ _ _ _ _=>hK _ (hn i)) (k3 i hi hi')⟩
   ·exact .inr (hM.mv hG rfl)
  ·have hB:=hR.heap.dk b cs1 hb1
   obtain ⟨c,e,k1,k2,k3⟩:=hB.JE hok;refine ⟨zC hB.own,.inl ⟨c,e,k1,by omega,fun i hi hi'=> ?_⟩⟩;have h3:=k3 i (by omega) hi';rcases hc i (by omega) hi with ⟨hl,e⟩|⟨sz,cs,len,hl,e1,e2⟩
   ·rw[e]
    exact bx.eC hG (fun _ _=>rfl) (hR.heap.ok b cs1 hb1 _ (List.getElem_mem _)) (fun _ _ _ _ _=>hK _ hl) h3
   ·rw[e2]
    rw[e1] at h3;exact hT hl h3
 ·rw[hlen]
  obtain ⟨cs1,hb1,hl1,⟨hn,rfl⟩|⟨hok,hc⟩⟩:=hH b cs2 hb
  ·exact hR.heap.ok b cs2 hb1 x hx
  ·obtain ⟨i,hi,rfl⟩:=List.mem_iff_getElem.1 hx
   rcases hc i (by omega) hi with ⟨hl,e⟩|⟨sz,cs,len,hl,e1,e2⟩
   ·rw[e];exact hR.heap.ok b cs1 hb1 _ (List.getElem_mem _)
   ·rw[e2];rfl
section
variable {n0:Nat} {l:SL} {H:SH} {s2:St} {α:Type} {z:Nat} {F:α->List ag} {V:α->List SC} {M:List ag->Option α} {d:α}
theorem kO {H:SH} {b:Nat} {x:Option SB}:aR (H.set b x)=(aR H).set b (mG x):=by simp[aR,List.map_set]
theorem Ot (t:Nat) {ls:List α} (ht:lk l t=some (.v (.c (.ownr z F V M d ls)))) (h0:Nat.ble n0 H.length=true) (h:di n0 (SS ((t,.v (.c (.tipr z F V M d ls)))::l) H) s2):di n0 (SS l H) s2:=by
 have hv:(SS l H).sl t= .c (.bg false z (ls.flatMap F) ls.length):=ka ht;refine di.trans (vY (fun x=>match x with| .slot i=>if i=t then some (ls.flatMap F).length else none|_=>none) (by rw[bY,aI];exact Nat.le_of_ble_eq_true h0) (by rw[bY,bY]) (fun i=> ?_) (fun b cs2 hb=>⟨cs2,by rw[bY] at hb⊢;exact hb,rfl,.inl ⟨fun _=>rfl,rfl⟩⟩)) h;by_cases e:i=t
 ·subst e
  exact .inr ⟨z,ls.flatMap F,ls.length,if_pos rfl,hv,aG _ _ _⟩
 ·exact .inl ⟨if_neg e,aw _ _ e⟩
theorem Oq (b i:Nat) {ls:List α} {cs:List SC} {H':SH} (hb:nth H b=some (some (.cells cs))) (hn:JU cs=true) (hi:nth cs i=some (.ownr z F V M d ls)) (h0:Nat.ble n0 H.length=true) (hH':H.set b (some (.cells (cs.set i (.tipr z F V M d ls))))=H') (h:di n0 (SS l H') s2):di n0 (SS l H) s2:=by
 subst hH';have hbl:b<H.length:=by
  rw[gV] at hb;exact (List.getElem?_eq_some_iff.1 hb).1
 refine di.trans (vY (fun x=>match x with| .cell b' j=>if b'=b/\j=i then some (ls.flatMap F).length else none|_=>none) (by rw[bY,aI];exact Nat.le_of_ble_eq_true h0) (by rw[bY,bY,aI,aI,List.length_set]) (fun j=> .inl ⟨rfl,?_⟩) (fun b' cs2 hb'=> ?_)) h
 ·rw[← eK (H:=H)]
  rfl
 ·rw[bY,kO] at hb'
  rw[bY];rcases tI hb' with ⟨rfl,rfl⟩|⟨hne,hb2⟩
  ·refine ⟨aU cs,dz hb,by simp[SB.den,aU],.inr ⟨nv hn,fun j hj hj'=> ?_⟩⟩
   by_cases e:j=i
   ·subst e
    refine .inr ⟨z,ls.flatMap F,ls.length,if_pos ⟨rfl,rfl⟩,?_,?_⟩
    ·have:=gU hi
     rw[List.getElem?_eq_getElem hj] at this;exact Option.some.inj this
    ·simp[SB.den,aU,SC.den]
   ·refine .inl ⟨if_neg (fun h=>e h.2),?_⟩
    simp[SB.den,aU,List.getElem_set,Ne.symm e]
  ·exact ⟨cs2,hb2,rfl,.inl ⟨fun _=>if_neg (fun h=>hne h.1),rfl⟩⟩
theorem Ny (l:SL) (H H':SH):(SS l H).sl=(SS l H').sl:=by
 rw[← eK l H' H];rfl
def Kj (z:Nat) (F:α->List ag) (r:List α):List ag:=[.row (r.flatMap F) r.length]
def PI (z:Nat) (F:α->List ag) (V:α->List SC) (d:α) (r:List α):List SC:=[.row z F V d r]
theorem Fo: ∀ ls:List (List α),sQ (ls.map fun r=>aa.bg true z (r.flatMap F) r.length) ((ls.flatMap (Kj z F)).map aa.f)
 |[]=> .nil
 |r::ls=>by
  simp only[List.map_cons,List.flatMap_cons,Kj,List.cons_append,List.nil_append];exact .cons (.g9 _ _ _) (Fo ls)
theorem Lq {H:List (Option (List aa))} {b:Nat} {cs ds:List aa} (h:sQ cs ds):v7 (H.set b (some cs)) (H.set b (some ds)):=by
 induction H generalizing b with
 |nil=>exact .nil
 |cons x H ih=>
  cases b with
  |zero=>exact .some h (v7.refl _)
  |succ b=>
   simp only[List.set_cons_succ];cases x with
   |none=>exact .none ih
   |some c=>exact .some (sQ.refl _) ih
theorem IA (b:Nat) {ls:List (List α)} {H':SH} (hb:nth H b=some (some (.rws z F V M d ls none))) (h0:Nat.ble n0 H.length=true) (hH':H.set b (some (.bF 1 (Kj z F) (PI z F V d) (fun _=>none) [] ls))=H') (h:di n0 (SS l H') s2):di n0 (SS l H) s2:=by
 subst hH';have hbl:b<H.length:=by
  rw[gV] at hb;exact (List.getElem?_eq_some_iff.1 hb).1
 have h0':n0<=(SS l H).H.length:=by rw[bY,aI];exact Nat.le_of_ble_eq_true h0
 refine di.trans (vY (s2:={ (SS l H) with H:=(SS l H).H.set b (some (ls.map fun r=>aa.bg true z (r.flatMap F) r.length)) }) (fun x=>match x with| .cell b' j=>if b'=b then (ls[j]?).map fun r=>(r.flatMap F).length else none|_=>none) h0' (by simp) (fun j=> .inl ⟨rfl,rfl⟩) (fun b' cs2 hb'=> ?_)) (di.trans (F4 (by simpa using h0') ?_ (fun i=> ?_) (fun i hi=> ?_)) h)
 ·have hb':((SS l H).H.set b (some (ls.map fun r=>aa.bg true z (r.flatMap F) r.length)))[b']? =some (some cs2):=hb'
  rw[bY] at hb'⊢;rcases tI hb' with ⟨rfl,rfl⟩|⟨hne,hb2⟩
  ·refine ⟨fY z F ls none,dz hb,by simp[fY],.inr ⟨rG (fun _ _ e=>by cases e),fun j hj hj'=> ?_⟩⟩
   have hj2:j<ls.length:=by simpa using hj'
   refine .inr ⟨z,ls[j].flatMap F,ls[j].length,?_,?_,?_⟩
   ·show (if b'=b' then _ else _)=_
    rw[if_pos rfl,List.getElem?_eq_getElem hj2];rfl
   ·simp[fY]
   ·simp
  ·exact ⟨cs2,hb2,rfl,.inl ⟨fun _=>if_neg hne,rfl⟩⟩
 ·rw[bY,bY,kO]
  exact Lq (Fo ls)
 ·rw[Ny l (H.set b _) H]
  exact ad.Le.refl _
 ·rw[Ny l (H.set b _) H]
  exact hi
theorem LG (b i:Nat) {ls:List α} {cs:List SC} (hb:nth H b=some (some (.cells cs))) (hi:nth cs i=some (.ownr z F V M d ls)) (hne:ls≠[]) (hF: ∀ x,(F x).length=z) (h0:Nat.ble n0 H.length=true) {n:Nat} (hn:H.length=n):
  Ap n0 (SS l H) (fun c:{ c:Nat // ls.length<=c }=>SS l (H.set b (some (.cells (cs.set i (.c (.arr n 0 ls.length c.1)))))++[some (.elo z F V M d ls ((c.1-ls.length)*z))])):=by
 subst hn;have hpos:0<ls.length:=by
  cases ls with
  |nil=>exact absurd rfl hne
  |cons=>simp
 refine ⟨fun c=> ?_,fun a w κ ρ hR=> ?_⟩
 ·rw[bY,aI]
  have:=Nat.le_of_ble_eq_true h0;simp;omega
 ·have hb2:(SS l H).H[b]? =some (some (aU cs)):=by rw[bY];exact dz hb
  obtain ⟨cap,κ',ρ',h1,h2,h3,h4⟩:=BC hR hb2 (gU hi) hpos;refine ⟨⟨cap,h1⟩,κ',ρ',?_,h3,fun b hb=>h4 b (by rw[bY,aI];have:=Nat.le_of_ble_eq_true h0;omega)⟩;have e:SS l (H.set b (some (.cells (cs.set i (.c (.arr H.length 0 ls.length cap)))))++[some (.elo z F V M d ls ((cap-ls.length)*z))])={ (SS l H) with H:=(SS l H).H.set b (some ((aU cs).set i (.arr (SS l H).H.length 0 ls.length cap)))++[some ((ls.flatMap F).map aa.f++List.replicate (cap*z-(ls.flatMap F).length) .any)] }:=by
   rw[← eK (H:=H)];show St.mk _ _=St.mk _ _
   congr 1;rw[bY,aI,aK F z hF ls,← Nat.sub_mul];simp[aR,mG,SB.den,aU,SC.den,List.map_set]
  rw[← e] at h2;exact h2
theorem Ex (b:Nat) (i:Int) {ls:List (List α)} (hb:nth H b=some (some (.rws z F V M d ls none))) (hi0:0<=i) (hi1:i<ls.length) (hne:ls.getD i.toNat []≠[]) (hF: ∀ x,(F x).length=z) (h0:Nat.ble n0 H.length=true) {n:Nat} (hn:H.length=n):
  Ap n0 (SS l H) (fun c:{ c:Nat // (ls.getD i.toNat []).length<=c }=>SS l (H.set b (some (.rws z F V M d ls (some (i,.c (.arr n 0 (ls.getD i.toNat []).length c.1)))))++[some (.elo z F V M d (ls.getD i.toNat []) ((c.1-(ls.getD i.toNat []).length)*z))])):=by
 subst hn;have hpos:0<(ls.getD i.toNat []).length:=by
  cases hh:ls.getD i.toNat [] with
  |nil=>exact absurd hh hne
  |cons=>simp
 refine ⟨fun c=> ?_,fun a w κ ρ hR=> ?_⟩
 ·rw[bY,aI]
  have:=Nat.le_of_ble_eq_true h0;simp;omega
 ·have hb2:(SS l H).H[b]? =some (some (fY z F ls none)):=by rw[bY];exact dz hb
  obtain ⟨cap,κ',ρ',h1,h2,h3,h4⟩:=BC hR hb2 (vK hi0 hi1) hpos;refine ⟨⟨cap,h1⟩,κ',ρ',?_,h3,fun b hb=>h4 b (by rw[bY,aI];have:=Nat.le_of_ble_eq_true h0;omega)⟩;generalize ls.getD i.toNat []=r at*;have e:SS l (H.set b (some (.rws z F V M d ls (some (i,.c (.arr H.length 0 r.length cap)))))++[some (.elo z F V M d r ((cap-r.length)*z))])={ (SS l H) with H:=(SS l H).H.set b (some ((fY z F ls none).set i.toNat (.arr (SS l H).H.length 0 r.length cap)))++[some ((r.flatMap F).map aa.f++List.replicate (cap*z-(r.flatMap F).length) .any)] }:=by
   rw[← eK (H:=H)];show St.mk _ _=St.mk _ _
   congr 1;rw[bY,aI,aK F z hF r,← Nat.sub_mul];simp[aR,mG,SB.den,fY,SC.den,List.map_set]
  rw[← e] at h2;exact h2
theorem pF (b b0:Nat) {i:Int} {ls:List (List α)} {r:List α} {len cap m:Nat} {V2:α->List SC} {M2:List ag->Option α} {d2:α} {H':SH} (hne:b≠b0) (hH:nth H b=some (some (.elo z F V2 M2 d2 r m))) (hH0:nth H b0=some (some (.rws z F V M d ls (some (i,.c (.arr b 0 len cap)))))) (hi0:0<=i) (hi1:i<ls.length) (hlen:len=r.length) (hc:r.length<=cap) (hm:m=(cap-r.length)*z) (hF: ∀ x,(F x).length=z) (h0:Nat.ble n0 H.length=true)
  (hH':(H.set b none).set b0 (some (.rws z F V M d (ls.set i.toNat r) none))=H') (h:di n0 (SS l H') s2):di n0 (SS l H) s2:=by
 subst hH';subst hlen;subst hm;have hw:=x7 (n0:=n0) (s:=SS l H) (b:=b) (b0:=b0) (i0:=i.toNat) (len:=r.length) (cap:=cap) (sz:=z) false (fs:=r.flatMap F) (pad:=List.replicate ((cap-r.length)*z) .any) (cs:=fY z F ls (some (i,.c (.arr b 0 r.length cap)))) (by rw[bY,aI];exact Nat.le_of_ble_eq_true h0) hne (by rw[bY];exact dz hH) (ji _ _) (by rw[bY];exact dz hH0) (lD hi0 hi1) hc (aK F z hF r) (by
  rw[List.length_append,List.length_map,List.length_replicate,aK F z hF r,← Nat.add_mul];congr 1;omega)
 refine hw.trans ?_;have e:SS l ((H.set b none).set b0 (some (.rws z F V M d (ls.set i.toNat r) none)))={ (SS l H) with H:=((SS l H).H.set b none).set b0 (some ((fY z F ls (some (i,.c (.arr b 0 r.length cap)))).set i.toNat (.bg false z (r.flatMap F) r.length))) }:=by
  rw[← eK (H:=H)];show St.mk _ _=St.mk _ _
  congr 1;rw[bY,kO,kO];congr 2;simp[mG,SB.den,fY,List.map_set]
 rw[e] at h;exact h
def PX {α:Type} (q:Bool) (z:Nat) (F:α->List ag) (V:α->List SC) (M:List ag->Option α) (d:α) (r:List α):SC:=
 match q with
 |true=> .tipr z F V M d r
 |false=> .ownr z F V M d r
theorem Iy (q:Bool) (b b0 i:Nat) {cs:List SC} {r:List α} {len cap m:Nat} {H':SH} (hne:b≠b0) (hH:nth H b=some (some (.elo z F V M d r m))) (hH0:nth H b0=some (some (.cells cs))) (hi:nth cs i=some (.c (.arr b 0 len cap))) (hlen:len=r.length) (hc:r.length<=cap) (hm:m=(cap-r.length)*z) (hF: ∀ x,(F x).length=z) (h0:Nat.ble n0 H.length=true)
  (hH':(H.set b none).set b0 (some (.cells (cs.set i (PX q z F V M d r))))=H') (h:di n0 (SS l H') s2):di n0 (SS l H) s2:=by
 subst hH';subst hlen;subst hm;have hw:=x7 (n0:=n0) (s:=SS l H) (b:=b) (b0:=b0) (i0:=i) (len:=r.length) (cap:=cap) (sz:=z) q (fs:=r.flatMap F) (pad:=List.replicate ((cap-r.length)*z) .any) (cs:=aU cs) (by rw[bY,aI];exact Nat.le_of_ble_eq_true h0) hne (by rw[bY];exact dz hH) (ji _ _) (by rw[bY];exact dz hH0) (gU hi) hc (aK F z hF r) (by
  rw[List.length_append,List.length_map,List.length_replicate,aK F z hF r,← Nat.add_mul];congr 1;omega)
 refine hw.trans ?_;have e:SS l ((H.set b none).set b0 (some (.cells (cs.set i (PX q z F V M d r)))))={ (SS l H) with H:=((SS l H).H.set b none).set b0 (some ((aU cs).set i (.bg q z (r.flatMap F) r.length))) }:=by
  rw[← eK (H:=H)];show St.mk _ _=St.mk _ _
  congr 1;rw[bY,kO,kO];congr 2;cases q<;>simp[mG,SB.den,aU,SC.den,List.map_set,PX]
 rw[e] at h;exact h
end
abbrev SD (l:List Int):SC:= .ownr 1 ez Cu GZ 0 l
def So (s:Iq):List ag:=[fS s.nm,fI s.len,fI s.sp,fI s.ac,fI s.br]
def Cv (s:Iq):List SC:=[xS s.nm,xI s.len,xI s.sp,xI s.ac,xI s.br]
def iT:Iq:=⟨⟨#[]⟩,0,0,0,0⟩
abbrev MT (l:List Iq):SC:= .row 5 So Cv iT l
def Sm (r:jV):List ag:=[.row (r.st.flatMap zc) r.st.length,fI r.ov]
def RH (r:jV):List SC:=[mK r.st,xI r.ov]
def dI:jV:=⟨[],0⟩
abbrev MS (l:List jV):SC:= .row 2 Sm RH dI l
structure Lf where
 rt:Int
 dep:Int
 dw:Int
def Q3 (s:Lf):List ag:=[fI s.rt,fI s.dep,fI s.dw]
def RC (s:Lf):List SC:=[xI s.rt,xI s.dep,xI s.dw]
def Tz:List ag->Option Lf
 |[.v (.int .i64 a),.v (.int .i64 b),.v (.int .i64 c)]=>some ⟨a,b,c⟩
 |_=>none
def bp:Lf:=⟨0,0,0⟩
abbrev PD (l:List Lf):SC:= .row 3 Q3 RC bp l
structure Ep where
 sk:Int
 du:List Lf
def Sk (s:Ep):List ag:=[fI s.sk,.row (s.du.flatMap Q3) s.du.length]
def Nq (s:Ep):List SC:=[xI s.sk,PD s.du]
def bz:Ep:=⟨0,[]⟩
abbrev G9 (l:List Ep):SC:= .row 2 Sk Nq bz l
structure dO where
 L:bJ
 sk:List Iq
 rt:List jV
 ms:List Ep
abbrev lZ (c:dO):List SC:=[ed c.L.sts,ed c.L.pts,mJ c.L.secs,kC c.L.lnks,MT c.sk,MS c.rt,G9 c.ms]
def gi (c:dO):SV:= .agg (lZ c)
structure tQ where
 a:Int
 b:Int
 nd:ag
 en:ag
 cl:ag
 ov:Int
 run:Int
def O7 (p:tQ):List ag:=[fI p.a,fI p.b,p.nd,p.en,p.cl,fI p.ov,fI p.run]
def RF (p:tQ):List SC:=[xI p.a,xI p.b,.c (.f p.nd),.c (.f p.en),.c (.f p.cl),xI p.ov,xI p.run]
def Rd:List ag->Option tQ
 |[.v (.int .i64 a),.v (.int .i64 b),n,e,c,.v (.int .i64 o),.v (.int .i64 r)]=>some ⟨a,b,n,e,c,o,r⟩
 |_=>none
def PB:tQ:=⟨0,0,.nils,.nils,.nils,0,0⟩
abbrev Sd:oJ:=⟨tQ,7,O7,RF,Rd,PB⟩
structure Eo where
 dep:Int
 arr:Int
 gone:Bool
 there_:Bool
def Jn (s:Eo):List ag:=[fI s.dep,fI s.arr,fB s.gone,fB s.there_]
def No (s:Eo):List SC:=[xI s.dep,xI s.arr,xB s.gone,xB s.there_]
def Rb:List ag->Option Eo
 |[.v (.int .i64 a),.v (.int .i64 b),.v (.bool c),.v (.bool d)]=>some ⟨a,b,c,d⟩
 |_=>none
def Mb:Eo:=⟨0,0,false,false⟩
abbrev MR (l:List Eo):SC:= .row 4 Jn No Mb l
structure Rec where
 at_:Int
 kd:Int
 tr:Int
 du:Int
 sp:Int
 rs:Int
def Q4 (s:Rec):List ag:=[fI s.at_,fI s.kd,fI s.tr,fI s.du,fI s.sp,fI s.rs]
def RG (s:Rec):List SC:=[xI s.at_,xI s.kd,xI s.tr,xI s.du,xI s.sp,xI s.rs]
def Sv:List ag->Option Rec
 |[.v (.int .i64 a),.v (.int .i64 b),.v (.int .i64 c),.v (.int .i64 d),.v (.int .i64 e),.v (.int .i64 f)]=>some ⟨a,b,c,d,e,f⟩
 |_=>none
def fO:Rec:=⟨0,0,0,0,0,0⟩
abbrev zE (l:List Rec):SC:= .row 6 Q4 RG fO l
abbrev Se:oJ:=⟨Rec,6,Q4,RG,Sv,fO⟩
structure hW where
 tm:Int
 ex:Int
 tr:Int
 du:Int
 sc:Int
 lt:Int
def gC (s:hW):List ag:=[fI s.tm,fI s.ex,fI s.tr,fI s.du,fI s.sc,fI s.lt]
def fw (s:hW):List SC:=[xI s.tm,xI s.ex,xI s.tr,xI s.du,xI s.sc,xI s.lt]
def o0:List ag->Option hW
 |[.v (.int .i64 a),.v (.int .i64 b),.v (.int .i64 c),.v (.int .i64 d),.v (.int .i64 e),.v (.int .i64 f)]=>some ⟨a,b,c,d,e,f⟩
 |_=>none
def fW:hW:=⟨0,0,0,0,0,0⟩
abbrev rD (l:List hW):SC:= .row 6 gC fw fW l
abbrev Rj (l:List hW):SC:= .ownr 6 gC fw o0 fW l
abbrev Sa:oJ:=⟨hW,6,gC,fw,o0,fW⟩
structure fZ where
 rt:Int
 dep:Int
 dw:Int
 fst:Int
 lst:Int
 run:Int
 fd:Int
 fa:Int
 gone:Bool
 there_:Bool
def pV (s:fZ):List ag:=[fI s.rt,fI s.dep,fI s.dw,fI s.fst,fI s.lst,fI s.run,fI s.fd,fI s.fa,fB s.gone,fB s.there_]
def ox (s:fZ):List SC:=[xI s.rt,xI s.dep,xI s.dw,xI s.fst,xI s.lst,xI s.run,xI s.fd,xI s.fa,xB s.gone,xB s.there_]
def va:List ag->Option fZ
 |[.v (.int .i64 a),.v (.int .i64 b),.v (.int .i64 c),.v (.int .i64 d),.v (.int .i64 e),.v (.int .i64 f),.v (.int .i64 g),.v (.int .i64 h),.v (.bool i),.v (.bool j)]=>some ⟨a,b,c,d,e,f,g,h,i,j⟩
 |_=>none
def cq:fZ:=⟨0,0,0,0,0,0,0,0,false,false⟩
abbrev Ro (l:List fZ):SC:= .row 10 pV ox cq l
abbrev R9:oJ:=⟨fZ,10,pV,ox,va,cq⟩
abbrev Gl (l:List (List fZ)):Option SB:=some (.rws 10 pV ox va cq l none)
abbrev vx (l:List (List fZ)):SC:= .row 1 (Kj 10 pV) (PI 10 pV ox cq) [] l
def Sl (_:Unit):List ag:=[.nils]
def Td (_:Unit):List SC:=[.c (.f .nils)]
abbrev QV:oJ:=⟨Unit,1,Sl,Td,fun _=>none,()⟩
structure oq where
 se:List Int
 po:List Int
 la:Int
 L:bJ
 st:List bD
 ov:Int
def Jm (c:oq):List ag:=[.row (c.se.flatMap ez) c.se.length,.row (c.po.flatMap ez) c.po.length,fI c.la,.row (c.L.sts.flatMap sY) c.L.sts.length,.row (c.L.pts.flatMap sY) c.L.pts.length,.row (c.L.secs.flatMap uN) c.L.secs.length,.row (c.L.lnks.flatMap wk) c.L.lnks.length,.row (c.st.flatMap zc) c.st.length,fI c.ov]
def Nn (c:oq):List SC:=[fN c.se,fN c.po,xI c.la,ed c.L.sts,ed c.L.pts,mJ c.L.secs,kC c.L.lnks,mK c.st,xI c.ov]
def eh:oq:=⟨[],[],0,Ss,[],0⟩
abbrev SG (l:List oq):SC:= .row 9 Jm Nn eh l
abbrev SK (l:List oq):SC:= .tipr 9 Jm Nn (fun _=>none) eh l
structure v8 where
 cs:List oq
 i:Int
 rt:Int
 sk:Int
 dep:Int
 dw:Int
 fst:Int
 run:Int
def Dk (o:v8):List ag:=[.ip (o.cs.flatMap Jm) (o.i.toNat*9+0),fI o.rt,fI o.sk,fI o.dep,fI o.dw,fI o.fst,fI o.run]
def K8 (o:v8):List SC:=[.elt 9 Jm Nn eh o.cs o.i 0,xI o.rt,xI o.sk,xI o.dep,xI o.dw,xI o.fst,xI o.run]
def JW:v8:=⟨[],0,0,0,0,0,0,0⟩
abbrev PF (l:List v8):SC:= .row 7 Dk K8 JW l
abbrev SO (l:List v8):SC:= .tipr 7 Dk K8 (fun _=>none) JW l
def NL (l:List v8):List ag:=[.row (l.flatMap Dk) l.length]
def RE (l:List v8):List SC:=[PF l]
abbrev Rw (l:List (List v8)):SC:= .tipr 1 NL RE (fun _=>none) [] l
abbrev Sz (es:List (List Int×Int)):Option SB:=some (.mp false ez Cu GZ 0 es)
abbrev Ft (es:List (List Int×tQ)):Option SB:=some (.mp true O7 RF Rd PB es)
theorem yZ {P:Program} {t:TypeId} {x y:Array Value} {w:World} {r:Bool} (h:(binOp .eql t (.agg x) (.agg y)).run P w= .ok (.bool r) w):(Op.equal t (.agg x) (.agg y)).run P w= .ok r w:=by
 simp only[binOp,Sem.run_bind] at h;cases hq:(Op.equal t (.agg x) (.agg y)).run P w with
 |ok b w'=>
  rw[hq] at h;simp at h;obtain ⟨rfl,rfl⟩:=h;rfl
 |halt a b=>rw[hq] at h;simp at h
theorem Pf {ks:List Int} (h:ks.length=2): ∃ a b,ks=[a,b]:=by
 match ks,h with
 |[a,b],_=>exact ⟨a,b,rfl⟩
theorem Pg {ks:List Int} (h:ks.length=4): ∃ a b c d,ks=[a,b,c,d]:=by
 match ks,h with
 |[a,b,c,d],_=>exact ⟨a,b,c,d,rfl⟩
def zeroV (P:Program) (e:TypeId):Option Value:=
 match P.info? e with
 |some i=>i.zero
 |none=>none
theorem x8 {P:Program} {e:TypeId} {z:Value} (h:zeroV P e=some z) (w:World):(zeroValue e).run P w= .ok z w:=by
 unfold zeroV at h;split at h
 ·rename_i i hi
  simp[zeroValue,typeInfo,hi,h]
 ·cases h
theorem JL {P:Program} {t k e:TypeId} {n:Nat} {z:Value} {x:ag} (ht:P.underlying t=some (.map k e)) (K:pq P k n) (hz:zeroV P e=some z) (hx:qL z= .f x):tP P t n false [x]:=
 ⟨k,e,ht,K,z,x8 hz,fun w κ=>⟨x,rfl,by
  have:=lA (w:=w) (κ:=κ) (ρ:=id) (l:= .slot 0) z;rw[hx] at this
  exact this⟩⟩
theorem Pk {P:Program} {t k e:TypeId} {n:Nat} {vs:Array Value} {fs:List ag} (ht:P.underlying t=some (.map k e)) (K:pq P k n) (hz:zeroV P e=some (.agg vs)) (hx:vs.toList.map qL=fs.map aa.f):tP P t n true fs:=
 ⟨k,e,ht,K,_,x8 hz,fun w κ=>⟨vs,rfl,by have:=congrArg List.length hx;simpa using this,fun i h h'=>by
  have h1:=lA (w:=w) (κ:=κ) (ρ:=id) (l:= .slot 0) vs[i];have h2:(vs.toList.map qL)[i]? =(fs.map aa.f)[i]? :=by rw[hx]
  rw[List.getElem?_map,List.getElem?_map,List.getElem?_eq_getElem h,Array.getElem?_toList,Array.getElem?_eq_getElem h'] at h2;simp only[Option.map_some,Option.some.injEq] at h2;rw[h2] at h1;exact h1⟩⟩
def S7:List (Nat×Bool×Nat):=[(2,false,1),(3,false,1),(4,false,1),(5,false,1),(6,false,1),(7,true,4),(8,true,4),(9,false,1),(10,false,1),(11,false,1),(12,false,1),(13,true,2),(14,true,2),(15,false,1),(16,false,1),(17,false,1),(18,true,1),(19,true,1),(21,false,1),(22,false,1),(23,false,1),(24,false,1),(25,false,1),(26,true,4),(27,true,4),(28,false,1),(29,false,1),(30,false,1),(31,true,7),(32,true,7),(33,false,1),(37,false,1),(38,false,1),(44,true,6),(45,true,6),(46,false,1),(47,true,4),(48,true,4),(51,false,1),(57,false,1),(58,true,2),(59,true,2),(60,true,3),(61,true,3),(62,true,7),(63,true,7),(71,false,1),(75,true,6),(76,true,6),(80,false,1),(83,false,1),(84,false,1),(87,false,1),(88,true,10),(89,true,10),(93,false,1),(94,false,1),(95,false,1),(96,false,1),(97,false,1),(98,true,8),(99,true,8),(102,false,1),(104,false,1),(105,true,2),(106,true,2),(112,true,5),(113,true,5),(115,false,1),(120,true,4),(121,true,4),(122,false,1),(123,true,5),(124,true,5),(127,false,1),(130,false,1),(132,false,1),(133,false,1),(134,true,19),(135,true,19),(140,true,2),(141,true,2),(146,true,7),(147,true,7),(148,false,1),(149,true,2),(152,false,1),(153,false,1),(159,false,1),(162,false,1),(163,false,1),(164,true,7),(165,true,7),(167,true,7),(168,true,7),(169,false,1),(170,true,4),(171,true,4),(172,true,5),(173,true,5),(175,true,5),(176,true,5),(177,true,3),(178,true,3),(179,true,2),(180,true,2),(181,false,1),(183,true,4),(184,true,4),(195,false,1),(198,true,15),(199,true,15),(205,false,1),(209,false,1),(210,false,1),(211,true,3),(212,true,3),(216,false,1),(231,true,3),(233,true,4),(234,true,4),(235,true,4),(236,true,4),(237,true,4),(238,true,2),(239,true,2),(240,true,6),(241,true,6),(242,true,144),(243,false,1),(251,true,2),(252,true,2),(253,true,2),(254,true,2),(258,false,1),(260,true,4),(261,true,4),(265,true,5),(266,true,5),(267,true,3),(268,true,3),(271,false,1),(279,true,4),(280,false,1),(281,false,1),(282,false,1),(283,true,10),(284,true,10),(285,true,9),(286,true,9),(288,false,1),(291,false,1),(297,true,2),(298,true,2),(303,true,5),(304,true,5),(313,false,1),(314,false,1),(316,true,13),(317,true,13),(326,true,6),(333,true,2),(334,false,1),(338,false,1),(342,false,1),(343,true,7),(344,true,7),(347,true,2),(348,true,2),(358,false,1),(359,true,5),(360,true,5),(363,true,5),(364,true,5),(368,false,1),(370,true,2),(371,true,2),(374,false,1),(379,true,4),(380,true,4),(386,true,2),(387,true,2),(394,false,1),(397,false,1),(401,true,4),(402,true,4),(403,true,0),(404,true,0),(405,true,0),(406,false,1),(407,false,1),(409,false,1),(410,false,1),(411,false,1),(412,true,11),(413,true,11),(414,false,1)]
def S2:List (Nat×List (Option Nat)):=[(7,[some 0,some 1,some 2,some 3]),(8,[some 0,some 1,some 2,some 3]),(13,[some 0,some 1]),(14,[some 0,some 1]),(18,[some 0]),(19,[some 0]),(26,[some 0,some 1,some 2,some 3]),(27,[some 0,some 1,some 2,some 3]),(31,[some 0,some 4,some 5,some 6]),(32,[some 0,some 4,some 5,some 6]),(44,[some 0,some 1,some 2,some 3,some 4,some 5]),(45,[some 0,some 1,some 2,some 3,some 4,some 5]),(47,[some 0,some 1,some 2,some 3]),(48,[some 0,some 1,some 2,some 3]),(58,[some 0,some 1]),(59,[some 0,some 1]),(60,[some 0,some 1,some 2]),(61,[some 0,some 1,some 2]),(62,[some 0,some 1,some 2,some 3,some 4,some 5,some 6]),(63,[some 0,some 1,some 2,some 3,some 4,some 5,some 6]),(75,[some 0,some 1,some 2,some 3,some 4,some 5]),(76,[some 0,some 1,some 2,some 3,some 4,some 5]),(88,[some 0,some 3,some 4,some 5,some 6]),(89,[some 0,some 3,some 4,some 5,some 6]),(98,[some 0,some 1,some 2,some 3,some 4,some 5,some 6,some 7]),(99,[some 0,some 1,some 2,some 3,some 4,some 5,some 6,some 7]),(105,[some 0,some 1]),(106,[some 0,some 1]),(112,[some 0,some 1,some 2,some 3,some 4]),(113,[some 0,some 1,some 2,some 3,some 4]),(120,[some 0,some 1,some 2,some 3]),(121,[some 0,some 1,some 2,some 3]),(123,[some 0,some 1,some 2,some 3,some 4]),(124,[some 0,some 1,some 2,some 3,some 4]),(134,[some 0,some 7,some 8,some 9,some 10,some 11,some 12,some 13,some 14,some 15,some 16,some 17,some 18]),(135,[some 0,some 7,some 8,some 9,some 10,some 11,some 12,some 13,some 14,some 15,some 16,some 17,some 18]),(140,[some 0,some 1]),(141,[some 0,some 1]),(146,[some 0,some 1,some 2,some 3,some 4,some 5,some 6]),(147,[some 0,some 1,some 2,some 3,some 4,some 5,some 6]),(164,[some 0,some 4,some 5,some 6]),(165,[some 0,some 4,some 5,some 6]),(167,[some 0,some 1,some 2,some 3,some 4,some 5,some 6]),(168,[some 0,some 1,some 2,some 3,some 4,some 5,some 6]),(170,[some 0,some 1,some 2,some 3]),(171,[some 0,some 1,some 2,some 3]),(172,[some 0,some 1,some 2,some 3,some 4]),(173,[some 0,some 1,some 2,some 3,some 4]),(175,[some 0,some 1,some 2,some 3,some 4]),(176,[some 0,some 1,some 2,some 3,some 4]),(177,[some 0,some 1,some 2]),(178,[some 0,some 1,some 2]),(179,[some 0,some 1]),(180,[some 0,some 1]),(183,[some 0,some 2,some 3]),(184,[some 0,some 2,some 3]),(198,[some 0,some 1,some 2,some 3,some 4,some 5,some 6,some 7,some 8]),(199,[some 0,some 1,some 2,some 3,some 4,some 5,some 6,some 7,some 8]),(211,[some 0,some 1,some 2]),(212,[some 0,some 1,some 2]),(233,[some 0,some 1,some 2,some 3]),(234,[some 0,some 1,some 2,some 3]),(236,[some 0,some 1,some 2,some 3]),(237,[some 0,some 1,some 2,some 3]),(238,[some 0,some 1]),(239,[some 0,some 1]),(240,[some 0,some 1,some 2,some 3,some 4,some 5]),(241,[some 0,some 1,some 2,some 3,some 4,some 5]),(251,[some 0,some 1]),(252,[some 0,some 1]),(253,[some 0,some 1]),(254,[some 0,some 1]),(260,[some 0,some 1,some 2,some 3]),(261,[some 0,some 1,some 2,some 3]),(265,[some 0,some 1,some 2,some 3,some 4]),(266,[some 0,some 1,some 2,some 3,some 4]),(267,[some 0,some 1,some 2]),(268,[some 0,some 1,some 2]),(283,[some 0,some 7,some 8,some 9]),(284,[some 0,some 7,some 8,some 9]),(285,[some 0,some 1,some 2,some 3,some 7]),(286,[some 0,some 1,some 2,some 3,some 7]),(297,[some 0,some 1]),(298,[some 0,some 1]),(303,[some 0,some 2,some 4]),(304,[some 0,some 2,some 4]),(316,[some 0,some 5,some 6,some 7,some 8,some 9,some 10,some 11,some 12]),(317,[some 0,some 5,some 6,some 7,some 8,some 9,some 10,some 11,some 12]),(343,[some 0,some 1,some 2,some 3,some 4,some 5,some 6]),(344,[some 0,some 1,some 2,some 3,some 4,some 5,some 6]),(347,[some 0,some 1]),(348,[some 0,some 1]),(359,[some 0,some 1,some 2,some 3,some 4]),(360,[some 0,some 1,some 2,some 3,some 4]),(363,[some 0,some 1,some 3]),(364,[some 0,some 1,some 3]),(370,[some 0,some 1]),(371,[some 0,some 1]),(379,[some 0,some 1,some 2,some 3]),(380,[some 0,some 1,some 2,some 3]),(386,[some 0,some 1]),(387,[some 0,some 1]),(401,[some 0,some 1,some 2,some 3]),(402,[some 0,some 1,some 2,some 3]),(404,[none]),(405,[none]),(412,[some 0,some 1,some 2,some 3,some 4,some 5,some 6,some 7,some 8,some 9,some 10]),(413,[some 0,some 1,some 2,some 3,some 4,some 5,some 6,some 7,some 8,some 9,some 10])]
def S1:List (Nat×List (Nat×Option (Bool×Nat))):=let o:=some (false,1);[(7,[(0,o),(1,o),(2,o),(3,o)]),(8,[(0,o),(1,o),(2,o),(3,o)]),(13,[(0,o),(1,o)]),(14,[(0,o),(1,o)]),(18,[(0,o)]),(19,[(0,o)]),(26,[(0,o),(1,o),(2,o),(3,o)]),(27,[(0,o),(1,o),(2,o),(3,o)]),(31,[(0,some (true,4)),(4,o),(5,o),(6,o)]),(32,[(0,some (true,4)),(4,o),(5,o),(6,o)]),(44,[(0,o),(1,o),(2,o),(3,o),(4,o),(5,o)]),(45,[(0,o),(1,o),(2,o),(3,o),(4,o),(5,o)]),(47,[(0,o),(1,o),(2,o),(3,o)]),(48,[(0,o),(1,o),(2,o),(3,o)]),(58,[(0,o),(1,o)]),(59,[(0,o),(1,o)]),(60,[(0,o),(1,o),(2,o)]),(61,[(0,o),(1,o),(2,o)]),(62,[(0,o),(1,o),(2,o),(3,o),(4,o),(5,o),(6,o)]),(63,[(0,o),(1,o),(2,o),(3,o),(4,o),(5,o),(6,o)]),(75,[(0,o),(1,o),(2,o),(3,o),(4,o),(5,o)]),(76,[(0,o),(1,o),(2,o),(3,o),(4,o),(5,o)]),(88,[(0,some (true,3)),(3,o),(4,o),(5,o),(6,some (true,4))]),(89,[(0,some (true,3)),(3,o),(4,o),(5,o),(6,some (true,4))]),(98,[(0,o),(1,o),(2,o),(3,o),(4,o),(5,o),(6,o),(7,o)]),(99,[(0,o),(1,o),(2,o),(3,o),(4,o),(5,o),(6,o),(7,o)]),(105,[(0,o),(1,o)]),(106,[(0,o),(1,o)]),(112,[(0,o),(1,o),(2,o),(3,o),(4,o)]),(113,[(0,o),(1,o),(2,o),(3,o),(4,o)]),(120,[(0,o),(1,o),(2,o),(3,o)]),(121,[(0,o),(1,o),(2,o),(3,o)]),(123,[(0,o),(1,o),(2,o),(3,o),(4,o)]),(124,[(0,o),(1,o),(2,o),(3,o),(4,o)]),(134,[(0,some (true,7)),(7,o),(8,o),(9,o),(10,o),(11,o),(12,o),(13,o),(14,o),(15,o),(16,o),(17,o),(18,o)]),(135,[(0,some (true,7)),(7,o),(8,o),(9,o),(10,o),(11,o),(12,o),(13,o),(14,o),(15,o),(16,o),(17,o),(18,o)]),(140,[(0,o),(1,o)]),(141,[(0,o),(1,o)]),(146,[(0,o),(1,o),(2,o),(3,o),(4,o),(5,o),(6,o)]),(147,[(0,o),(1,o),(2,o),(3,o),(4,o),(5,o),(6,o)]),(164,[(0,some (true,4)),(4,o),(5,o),(6,o)]),(165,[(0,some (true,4)),(4,o),(5,o),(6,o)]),(167,[(0,o),(1,o),(2,o),(3,o),(4,o),(5,o),(6,o)]),(168,[(0,o),(1,o),(2,o),(3,o),(4,o),(5,o),(6,o)]),(170,[(0,o),(1,o),(2,o),(3,o)]),(171,[(0,o),(1,o),(2,o),(3,o)]),(172,[(0,o),(1,o),(2,o),(3,o),(4,o)]),(173,[(0,o),(1,o),(2,o),(3,o),(4,o)]),(175,[(0,o),(1,o),(2,o),(3,o),(4,o)]),(176,[(0,o),(1,o),(2,o),(3,o),(4,o)]),(177,[(0,o),(1,o),(2,o)]),(178,[(0,o),(1,o),(2,o)]),(179,[(0,o),(1,o)]),(180,[(0,o),(1,o)]),(183,[(0,some (true,2)),(2,o),(3,o)]),(184,[(0,some (true,2)),(2,o),(3,o)]),(198,[(0,o),(1,o),(2,o),(3,o),(4,o),(5,o),(6,o),(7,o),(8,some (true,7))]),(199,[(0,o),(1,o),(2,o),(3,o),(4,o),(5,o),(6,o),(7,o),(8,some (true,7))]),(211,[(0,o),(1,o),(2,o)]),(212,[(0,o),(1,o),(2,o)]),(233,[(0,o),(1,o),(2,o),(3,o)]),(234,[(0,o),(1,o),(2,o),(3,o)]),(236,[(0,o),(1,o),(2,o),(3,o)]),(237,[(0,o),(1,o),(2,o),(3,o)]),(238,[(0,o),(1,o)]),(239,[(0,o),(1,o)]),(240,[(0,o),(1,o),(2,o),(3,o),(4,o),(5,o)]),(241,[(0,o),(1,o),(2,o),(3,o),(4,o),(5,o)]),(251,[(0,o),(1,o)]),(252,[(0,o),(1,o)]),(253,[(0,o),(1,o)]),(254,[(0,o),(1,o)]),(260,[(0,o),(1,o),(2,o),(3,o)]),(261,[(0,o),(1,o),(2,o),(3,o)]),(265,[(0,o),(1,o),(2,o),(3,o),(4,o)]),(266,[(0,o),(1,o),(2,o),(3,o),(4,o)]),(267,[(0,o),(1,o),(2,o)]),(268,[(0,o),(1,o),(2,o)]),(283,[(0,some (true,7)),(7,o),(8,o),(9,o)]),(284,[(0,some (true,7)),(7,o),(8,o),(9,o)]),(285,[(0,o),(1,o),(2,o),(3,some (true,4)),(7,some (true,2))]),(286,[(0,o),(1,o),(2,o),(3,some (true,4)),(7,some (true,2))]),(297,[(0,o),(1,o)]),(298,[(0,o),(1,o)]),(303,[(0,some (true,2)),(2,some (true,2)),(4,o)]),(304,[(0,some (true,2)),(2,some (true,2)),(4,o)]),(316,[(0,some (true,5)),(5,o),(6,o),(7,o),(8,o),(9,o),(10,o),(11,o),(12,o)]),(317,[(0,some (true,5)),(5,o),(6,o),(7,o),(8,o),(9,o),(10,o),(11,o),(12,o)]),(343,[(0,o),(1,o),(2,o),(3,o),(4,o),(5,o),(6,o)]),(344,[(0,o),(1,o),(2,o),(3,o),(4,o),(5,o),(6,o)]),(347,[(0,o),(1,o)]),(348,[(0,o),(1,o)]),(359,[(0,o),(1,o),(2,o),(3,o),(4,o)]),(360,[(0,o),(1,o),(2,o),(3,o),(4,o)]),(363,[(0,o),(1,some (true,2)),(3,some (true,2))]),(364,[(0,o),(1,some (true,2)),(3,some (true,2))]),(370,[(0,o),(1,o)]),(371,[(0,o),(1,o)]),(379,[(0,o),(1,o),(2,o),(3,o)]),(380,[(0,o),(1,o),(2,o),(3,o)]),(386,[(0,o),(1,o)]),(387,[(0,o),(1,o)]),(401,[(0,o),(1,o),(2,o),(3,o)]),(402,[(0,o),(1,o),(2,o),(3,o)]),(404,[(0,some (true,0))]),(405,[(0,some (true,0))]),(412,[(0,o),(1,o),(2,o),(3,o),(4,o),(5,o),(6,o),(7,o),(8,o),(9,o),(10,o)]),(413,[(0,o),(1,o),(2,o),(3,o),(4,o),(5,o),(6,o),(7,o),(8,o),(9,o),(10,o)])]
def S0:List (Nat×Nat):=[(22,1),(23,1),(24,5),(25,6),(28,5),(29,2),(30,2),(33,6),(37,1),(46,4),(51,5),(57,3),(71,6),(80,7),(84,1),(87,10),(93,4),(94,7),(95,4),(96,5),(97,3),(104,2),(115,1),(122,4),(127,2),(132,15),(133,4),(163,1),(169,4),(181,4),(195,2),(205,1),(210,3),(243,2),(258,5),(281,9),(282,1),(288,7),(291,1),(314,5),(368,1)]
def S4:List (Nat×Nat×Nat×List SC):=let z:SC:=.c (.f (.v (.int .i64 0)));let n:SC:=.c (.f .nils);let b:SC:=.c (.f (.v (.bool false)));let s:SC:=.c (.f (.v (.string ⟨#[]⟩)));[(22,1,8,[z]),(23,1,16,[s]),(24,5,48,[s,z,z,z,z]),(25,6,48,[z,z,z,z,z,z]),(28,5,48,[s,z,z,z,z]),(29,2,32,[n,z]),(30,2,32,[z,n]),(33,6,48,[z,z,z,z,z,z]),(37,1,24,[n]),(46,4,24,[z,z,b,b]),(51,5,40,[z,z,z,z,z]),(57,3,24,[z,z,z]),(71,6,48,[z,z,z,z,z,z]),(80,7,56,[z,z,z,z,z,z,z]),(84,1,24,[n]),(87,10,72,[z,z,z,z,z,z,z,z,b,b]),(93,4,56,[s,z,z,n]),(94,7,56,[z,z,z,z,z,z,z]),(95,4,32,[z,z,z,z]),(96,5,40,[z,z,z,z,z]),(97,3,24,[z,z,z]),(104,2,16,[z,z]),(115,1,24,[n]),(122,4,48,[z,n,z,z]),(127,2,32,[z,n]),(132,15,168,[z,z,z,z,z,z,b,z,z,z,n,n,n,z,z]),(133,4,32,[z,z,z,z]),(163,1,24,[n]),(169,4,32,[z,z,z,z]),(181,4,32,[z,z,z,z]),(195,2,16,[z,z]),(205,1,24,[n]),(210,3,32,[s,z,z]),(243,2,16,[z,z]),(258,5,40,[z,z,z,z,z]),(281,9,184,[n,n,z,n,n,n,n,n,z]),(282,1,24,[n]),(288,7,56,[.c (.f (.v (.pointer none))),z,z,z,z,z,z]),(291,1,1,[b]),(314,5,40,[z,z,z,z,z]),(368,1,24,[n])]
def SW:List (Nat×List SC×Pl):=let z:SC:=.c (.f (.v (.int .i64 0)));let n:SC:=.c (.f .nils);let b:SC:=.c (.f (.v (.bool false)));let s:SC:=.c (.f (.v (.string ⟨#[]⟩)));[(7,[z,z,b,.c (.f (.v (.int .u8 0)))],.fields [(0,1),(1,1),(2,1),(3,1)]),(8,[z,z,b,.c (.f (.v (.int .u8 0)))],.fields [(0,1),(1,1),(2,1),(3,1)]),(13,[s,.c (.f (.v (.int .u64 0)))],.fields [(0,1),(1,1)]),(14,[s,.c (.f (.v (.int .u64 0)))],.fields [(0,1),(1,1)]),(18,[.c (.f (.v (.pointer none)))],.fields [(0,1)]),(19,[.c (.f (.v (.pointer none)))],.fields [(0,1)]),(26,[n,n,n,n],.fields [(0,1),(1,1),(2,1),(3,1)]),(27,[n,n,n,n],.fields [(0,1),(1,1),(2,1),(3,1)]),(31,[n,n,n,n,n,n,n],.fields [(0,4),(4,1),(5,1),(6,1)]),(32,[n,n,n,n,n,n,n],.fields [(0,4),(4,1),(5,1),(6,1)]),(44,[z,z,z,z,z,z],.fields [(0,1),(1,1),(2,1),(3,1),(4,1),(5,1)]),(45,[z,z,z,z,z,z],.fields [(0,1),(1,1),(2,1),(3,1),(4,1),(5,1)]),(47,[z,z,b,b],.fields [(0,1),(1,1),(2,1),(3,1)]),(48,[z,z,b,b],.fields [(0,1),(1,1),(2,1),(3,1)]),(58,[z,n],.fields [(0,1),(1,1)]),(59,[z,n],.fields [(0,1),(1,1)]),(60,[z,z,z],.fields [(0,1),(1,1),(2,1)]),(61,[z,z,z],.fields [(0,1),(1,1),(2,1)]),(62,[z,z,n,n,n,z,z],.fields [(0,1),(1,1),(2,1),(3,1),(4,1),(5,1),(6,1)]),(63,[z,z,n,n,n,z,z],.fields [(0,1),(1,1),(2,1),(3,1),(4,1),(5,1),(6,1)]),(75,[z,z,z,z,z,z],.fields [(0,1),(1,1),(2,1),(3,1),(4,1),(5,1)]),(76,[z,z,z,z,z,z],.fields [(0,1),(1,1),(2,1),(3,1),(4,1),(5,1)]),(88,[z,z,z,z,z,z,z,z,b,b],.fields [(0,3),(3,1),(4,1),(5,1),(6,4)]),(89,[z,z,z,z,z,z,z,z,b,b],.fields [(0,3),(3,1),(4,1),(5,1),(6,4)]),(98,[z,n,n,n,n,n,n,n],.fields [(0,1),(1,1),(2,1),(3,1),(4,1),(5,1),(6,1),(7,1)]),(99,[z,n,n,n,n,n,n,n],.fields [(0,1),(1,1),(2,1),(3,1),(4,1),(5,1),(6,1),(7,1)]),(105,[n,z],.fields [(0,1),(1,1)]),(106,[n,z],.fields [(0,1),(1,1)]),(112,[s,z,z,z,z],.fields [(0,1),(1,1),(2,1),(3,1),(4,1)]),(113,[s,z,z,z,z],.fields [(0,1),(1,1),(2,1),(3,1),(4,1)]),(120,[z,n,z,z],.fields [(0,1),(1,1),(2,1),(3,1)]),(121,[z,n,z,z],.fields [(0,1),(1,1),(2,1),(3,1)]),(123,[z,z,z,z,z],.fields [(0,1),(1,1),(2,1),(3,1),(4,1)]),(124,[z,z,z,z,z],.fields [(0,1),(1,1),(2,1),(3,1),(4,1)]),(134,[n,n,n,n,n,n,n,n,n,n,n,n,n,n,z,n,b,n,n],.fields [(0,7),(7,1),(8,1),(9,1),(10,1),(11,1),(12,1),(13,1),(14,1),(15,1),(16,1),(17,1),(18,1)]),(135,[n,n,n,n,n,n,n,n,n,n,n,n,n,n,z,n,b,n,n],.fields [(0,7),(7,1),(8,1),(9,1),(10,1),(11,1),(12,1),(13,1),(14,1),(15,1),(16,1),(17,1),(18,1)]),(140,[z,z],.fields [(0,1),(1,1)]),(141,[z,z],.fields [(0,1),(1,1)]),(146,[z,z,z,z,z,z,z],.fields [(0,1),(1,1),(2,1),(3,1),(4,1),(5,1),(6,1)]),(147,[z,z,z,z,z,z,z],.fields [(0,1),(1,1),(2,1),(3,1),(4,1),(5,1),(6,1)]),(149,[z,z],.elems 1),(164,[n,n,n,n,n,n,n],.fields [(0,4),(4,1),(5,1),(6,1)]),(165,[n,n,n,n,n,n,n],.fields [(0,4),(4,1),(5,1),(6,1)]),(167,[z,z,z,z,z,z,z],.fields [(0,1),(1,1),(2,1),(3,1),(4,1),(5,1),(6,1)]),(168,[z,z,z,z,z,z,z],.fields [(0,1),(1,1),(2,1),(3,1),(4,1),(5,1),(6,1)]),(170,[s,z,z,n],.fields [(0,1),(1,1),(2,1),(3,1)]),(171,[s,z,z,n],.fields [(0,1),(1,1),(2,1),(3,1)]),(172,[s,z,z,z,z],.fields [(0,1),(1,1),(2,1),(3,1),(4,1)]),(173,[s,z,z,z,z],.fields [(0,1),(1,1),(2,1),(3,1),(4,1)]),(175,[z,z,z,z,z],.fields [(0,1),(1,1),(2,1),(3,1),(4,1)]),(176,[z,z,z,z,z],.fields [(0,1),(1,1),(2,1),(3,1),(4,1)]),(177,[z,z,z],.fields [(0,1),(1,1),(2,1)]),(178,[z,z,z],.fields [(0,1),(1,1),(2,1)]),(179,[n,z],.fields [(0,1),(1,1)]),(180,[n,z],.fields [(0,1),(1,1)]),(183,[z,z,z,z],.fields [(0,2),(2,1),(3,1)]),(184,[z,z,z,z],.fields [(0,2),(2,1),(3,1)]),(198,[z,z,z,z,z,z,b,z,z,z,n,n,n,z,z],.fields [(0,1),(1,1),(2,1),(3,1),(4,1),(5,1),(6,1),(7,1),(8,7)]),(199,[z,z,z,z,z,z,b,z,z,z,n,n,n,z,z],.fields [(0,1),(1,1),(2,1),(3,1),(4,1),(5,1),(6,1),(7,1),(8,7)]),(211,[s,z,z],.fields [(0,1),(1,1),(2,1)]),(212,[s,z,z],.fields [(0,1),(1,1),(2,1)]),(231,[z,z,z],.elems 1),(233,[z,z,z,z],.fields [(0,1),(1,1),(2,1),(3,1)]),(234,[z,z,z,z],.fields [(0,1),(1,1),(2,1),(3,1)]),(235,[b,b,b,b],.elems 1),(236,[z,z,z,z],.fields [(0,1),(1,1),(2,1),(3,1)]),(237,[z,z,z,z],.fields [(0,1),(1,1),(2,1),(3,1)]),(238,[z,z],.fields [(0,1),(1,1)]),(239,[z,z],.fields [(0,1),(1,1)]),(240,[z,z,z,z,z,z],.fields [(0,1),(1,1),(2,1),(3,1),(4,1),(5,1)]),(241,[z,z,z,z,z,z],.fields [(0,1),(1,1),(2,1),(3,1),(4,1),(5,1)]),(242,(List.replicate 144 (b)),.elems 1),(251,[z,z],.fields [(0,1),(1,1)]),(252,[z,z],.fields [(0,1),(1,1)]),(253,[z,n],.fields [(0,1),(1,1)]),(254,[z,n],.fields [(0,1),(1,1)]),(260,[z,z,z,z],.fields [(0,1),(1,1),(2,1),(3,1)]),(261,[z,z,z,z],.fields [(0,1),(1,1),(2,1),(3,1)]),(265,[n,n,n,n,z],.fields [(0,1),(1,1),(2,1),(3,1),(4,1)]),(266,[n,n,n,n,z],.fields [(0,1),(1,1),(2,1),(3,1),(4,1)]),(267,[n,n,z],.fields [(0,1),(1,1),(2,1)]),(268,[n,n,z],.fields [(0,1),(1,1),(2,1)]),(279,[z,z,z,z],.elems 1),(283,[n,n,n,n,n,n,n,n,.c (.f (.v (.map none))),n],.fields [(0,7),(7,1),(8,1),(9,1)]),(284,[n,n,n,n,n,n,n,n,.c (.f (.v (.map none))),n],.fields [(0,7),(7,1),(8,1),(9,1)]),(285,[n,n,z,n,n,n,n,n,z],.fields [(0,1),(1,1),(2,1),(3,4),(7,2)]),(286,[n,n,z,n,n,n,n,n,z],.fields [(0,1),(1,1),(2,1),(3,4),(7,2)]),(297,[z,z],.fields [(0,1),(1,1)]),(298,[z,z],.fields [(0,1),(1,1)]),(303,[z,z,z,z,z],.fields [(0,2),(2,2),(4,1)]),(304,[z,z,z,z,z],.fields [(0,2),(2,2),(4,1)]),(316,[n,n,n,n,z,n,z,z,n,b,n,z,n],.fields [(0,5),(5,1),(6,1),(7,1),(8,1),(9,1),(10,1),(11,1),(12,1)]),(317,[n,n,n,n,z,n,z,z,n,b,n,z,n],.fields [(0,5),(5,1),(6,1),(7,1),(8,1),(9,1),(10,1),(11,1),(12,1)]),(326,[z,z,z,z,z,z],.elems 1),(333,[n,n],.elems 1),(343,[.c (.f (.v (.pointer none))),z,z,z,z,z,z],.fields [(0,1),(1,1),(2,1),(3,1),(4,1),(5,1),(6,1)]),(344,[.c (.f (.v (.pointer none))),z,z,z,z,z,z],.fields [(0,1),(1,1),(2,1),(3,1),(4,1),(5,1),(6,1)]),(347,[n,z],.fields [(0,1),(1,1)]),(348,[n,z],.fields [(0,1),(1,1)]),(359,[n,z,z,n,n],.fields [(0,1),(1,1),(2,1),(3,1),(4,1)]),(360,[n,z,z,n,n],.fields [(0,1),(1,1),(2,1),(3,1),(4,1)]),(363,[z,z,z,z,z],.fields [(0,1),(1,2),(3,2)]),(364,[z,z,z,z,z],.fields [(0,1),(1,2),(3,2)]),(370,[z,z],.fields [(0,1),(1,1)]),(371,[z,z],.fields [(0,1),(1,1)]),(379,[z,z,z,z],.fields [(0,1),(1,1),(2,1),(3,1)]),(380,[z,z,z,z],.fields [(0,1),(1,1),(2,1),(3,1)]),(386,[z,z],.fields [(0,1),(1,1)]),(387,[z,z],.fields [(0,1),(1,1)]),(401,[.c (.f (.v (.pointer none))),.c (.f (.v (.pointer none))),.c (.f (.v (.pointer none))),s],.fields [(0,1),(1,1),(2,1),(3,1)]),(402,[.c (.f (.v (.pointer none))),.c (.f (.v (.pointer none))),.c (.f (.v (.pointer none))),s],.fields [(0,1),(1,1),(2,1),(3,1)]),(403,[],.elems 1),(404,[],.fields [(0,0)]),(405,[],.fields [(0,0)]),(412,[.c (.f (.v (.int .u64 0))),.c (.f (.v (.int .u64 0))),.c (.f (.v (.int .u32 0))),.c (.f (.v (.int .u8 0))),.c (.f (.v (.int .u8 0))),.c (.f (.v (.int .u8 0))),.c (.f (.v (.int .u8 0))),.c (.f (.v .nilFunc)),.c (.f (.v (.pointer none))),.c (.f (.v (.int .i32 0))),.c (.f (.v (.int .i32 0)))],.fields [(0,1),(1,1),(2,1),(3,1),(4,1),(5,1),(6,1),(7,1),(8,1),(9,1),(10,1)]),(413,[.c (.f (.v (.int .u64 0))),.c (.f (.v (.int .u64 0))),.c (.f (.v (.int .u32 0))),.c (.f (.v (.int .u8 0))),.c (.f (.v (.int .u8 0))),.c (.f (.v (.int .u8 0))),.c (.f (.v (.int .u8 0))),.c (.f (.v .nilFunc)),.c (.f (.v (.pointer none))),.c (.f (.v (.int .i32 0))),.c (.f (.v (.int .i32 0)))],.fields [(0,1),(1,1),(2,1),(3,1),(4,1),(5,1),(6,1),(7,1),(8,1),(9,1),(10,1)])]
def S8:List (Nat×List SC):=let z:SC:=.c (.f (.v (.int .i64 0)));let n:SC:=.c (.f .nils);let b:SC:=.c (.f (.v (.bool false)));let s:SC:=.c (.f (.v (.string ⟨#[]⟩)));[(2,[z]),(3,[z]),(4,[b]),(5,[.c (.f (.v (.int .u8 0)))]),(6,[.c (.f (.v (.int .u8 0)))]),(7,[z,z,b,.c (.f (.v (.int .u8 0)))]),(8,[z,z,b,.c (.f (.v (.int .u8 0)))]),(9,[s]),(10,[s]),(11,[s]),(12,[.c (.f (.v (.int .u64 0)))]),(13,[s,.c (.f (.v (.int .u64 0)))]),(14,[s,.c (.f (.v (.int .u64 0)))]),(15,[.c (.f (.v (.pointer none)))]),(16,[.c (.f (.v (.pointer none)))]),(17,[.c (.f (.v (.pointer none)))]),(18,[.c (.f (.v (.pointer none)))]),(19,[.c (.f (.v (.pointer none)))]),(21,[.c (.f (.v (.int .i32 0)))]),(22,[n]),(23,[n]),(24,[n]),(25,[n]),(26,[n,n,n,n]),(27,[n,n,n,n]),(28,[n]),(29,[n]),(30,[n]),(31,[n,n,n,n,n,n,n]),(32,[n,n,n,n,n,n,n]),(33,[n]),(37,[n]),(38,[z]),(44,[z,z,z,z,z,z]),(45,[z,z,z,z,z,z]),(46,[n]),(47,[z,z,b,b]),(48,[z,z,b,b]),(51,[n]),(57,[n]),(58,[z,n]),(59,[z,n]),(60,[z,z,z]),(61,[z,z,z]),(62,[z,z,n,n,n,z,z]),(63,[z,z,n,n,n,z,z]),(71,[n]),(75,[z,z,z,z,z,z]),(76,[z,z,z,z,z,z]),(80,[n]),(83,[.c (.f (.v (.int .u64 0)))]),(84,[n]),(87,[n]),(88,[z,z,z,z,z,z,z,z,b,b]),(89,[z,z,z,z,z,z,z,z,b,b]),(93,[n]),(94,[n]),(95,[n]),(96,[n]),(97,[n]),(98,[z,n,n,n,n,n,n,n]),(99,[z,n,n,n,n,n,n,n]),(102,[.c (.f (.v (.pointer none)))]),(104,[n]),(105,[n,z]),(106,[n,z]),(112,[s,z,z,z,z]),(113,[s,z,z,z,z]),(115,[n]),(120,[z,n,z,z]),(121,[z,n,z,z]),(122,[n]),(123,[z,z,z,z,z]),(124,[z,z,z,z,z]),(127,[n]),(130,[.c (.f (.v (.pointer none)))]),(132,[n]),(133,[n]),(134,[n,n,n,n,n,n,n,n,n,n,n,n,n,n,z,n,b,n,n]),(135,[n,n,n,n,n,n,n,n,n,n,n,n,n,n,z,n,b,n,n]),(140,[z,z]),(141,[z,z]),(146,[z,z,z,z,z,z,z]),(147,[z,z,z,z,z,z,z]),(148,[.c (.f (.v (.map none)))]),(149,[z,z]),(152,[.c (.f (.v (.pointer none)))]),(153,[.c (.f (.v (.pointer none)))]),(159,[.c (.f (.v (.pointer none)))]),(162,[.c (.f (.v (.pointer none)))]),(163,[n]),(164,[n,n,n,n,n,n,n]),(165,[n,n,n,n,n,n,n]),(167,[z,z,z,z,z,z,z]),(168,[z,z,z,z,z,z,z]),(169,[n]),(170,[s,z,z,n]),(171,[s,z,z,n]),(172,[s,z,z,z,z]),(173,[s,z,z,z,z]),(175,[z,z,z,z,z]),(176,[z,z,z,z,z]),(177,[z,z,z]),(178,[z,z,z]),(179,[n,z]),(180,[n,z]),(181,[n]),(183,[z,z,z,z]),(184,[z,z,z,z]),(195,[n]),(198,[z,z,z,z,z,z,b,z,z,z,n,n,n,z,z]),(199,[z,z,z,z,z,z,b,z,z,z,n,n,n,z,z]),(205,[n]),(209,[.c (.f (.v (.pointer none)))]),(210,[n]),(211,[s,z,z]),(212,[s,z,z]),(216,[.c (.f (.v (.pointer none)))]),(231,[z,z,z]),(233,[z,z,z,z]),(234,[z,z,z,z]),(235,[b,b,b,b]),(236,[z,z,z,z]),(237,[z,z,z,z]),(238,[z,z]),(239,[z,z]),(240,[z,z,z,z,z,z]),(241,[z,z,z,z,z,z]),(242,(List.replicate 144 (b))),(243,[n]),(251,[z,z]),(252,[z,z]),(253,[z,n]),(254,[z,n]),(258,[n]),(260,[z,z,z,z]),(261,[z,z,z,z]),(265,[n,n,n,n,z]),(266,[n,n,n,n,z]),(267,[n,n,z]),(268,[n,n,z]),(271,[.c (.f (.v (.pointer none)))]),(279,[z,z,z,z]),(280,[.c (.f (.v (.map none)))]),(281,[n]),(282,[n]),(283,[n,n,n,n,n,n,n,n,.c (.f (.v (.map none))),n]),(284,[n,n,n,n,n,n,n,n,.c (.f (.v (.map none))),n]),(285,[n,n,z,n,n,n,n,n,z]),(286,[n,n,z,n,n,n,n,n,z]),(288,[n]),(291,[n]),(297,[z,z]),(298,[z,z]),(303,[z,z,z,z,z]),(304,[z,z,z,z,z]),(313,[.c (.f (.v (.pointer none)))]),(314,[n]),(316,[n,n,n,n,z,n,z,z,n,b,n,z,n]),(317,[n,n,n,n,z,n,z,z,n,b,n,z,n]),(326,[z,z,z,z,z,z]),(333,[n,n]),(334,[.c (.f (.v (.map none)))]),(338,[.c (.f (.v (.map none)))]),(342,[.c (.f (.v (.pointer none)))]),(343,[.c (.f (.v (.pointer none))),z,z,z,z,z,z]),(344,[.c (.f (.v (.pointer none))),z,z,z,z,z,z]),(347,[n,z]),(348,[n,z]),(358,[.c (.f (.v (.pointer none)))]),(359,[n,z,z,n,n]),(360,[n,z,z,n,n]),(363,[z,z,z,z,z]),(364,[z,z,z,z,z]),(368,[n]),(370,[z,z]),(371,[z,z]),(374,[.c (.f (.v (.pointer none)))]),(379,[z,z,z,z]),(380,[z,z,z,z]),(386,[z,z]),(387,[z,z]),(394,[.c (.f (.v (.int .u32 0)))]),(397,[.c (.f (.v (.int .u64 0)))]),(401,[.c (.f (.v (.pointer none))),.c (.f (.v (.pointer none))),.c (.f (.v (.pointer none))),s]),(402,[.c (.f (.v (.pointer none))),.c (.f (.v (.pointer none))),.c (.f (.v (.pointer none))),s]),(406,[.c (.f (.v (.int .u8 0)))]),(407,[.c (.f (.v (.int .u8 0)))]),(409,[.c (.f (.v (.pointer none)))]),(410,[.c (.f (.v (.int .i32 0)))]),(411,[.c (.f (.v (.int .i32 0)))]),(412,[.c (.f (.v (.int .u64 0))),.c (.f (.v (.int .u64 0))),.c (.f (.v (.int .u32 0))),.c (.f (.v (.int .u8 0))),.c (.f (.v (.int .u8 0))),.c (.f (.v (.int .u8 0))),.c (.f (.v (.int .u8 0))),.c (.f (.v .nilFunc)),.c (.f (.v (.pointer none))),.c (.f (.v (.int .i32 0))),.c (.f (.v (.int .i32 0)))]),(413,[.c (.f (.v (.int .u64 0))),.c (.f (.v (.int .u64 0))),.c (.f (.v (.int .u32 0))),.c (.f (.v (.int .u8 0))),.c (.f (.v (.int .u8 0))),.c (.f (.v (.int .u8 0))),.c (.f (.v (.int .u8 0))),.c (.f (.v .nilFunc)),.c (.f (.v (.pointer none))),.c (.f (.v (.int .i32 0))),.c (.f (.v (.int .i32 0)))]),(414,[.c (.f (.v (.pointer none)))])]
def S6:List Nat:=[9,10,11]
def S3:List (Nat×IntKind):=[(2,.i64),(3,.i64),(5,.u8),(6,.u8),(12,.u64),(21,.i32),(38,.i64),(83,.u64),(394,.u32),(397,.u64),(406,.u8),(407,.u8),(410,.i32),(411,.i32)]
def S5:List (Nat×Nat):=[(22,3),(23,9),(24,173),(25,241),(28,113),(29,106),(30,59),(33,45),(37,46),(46,48),(51,124),(57,61),(71,76),(80,147),(84,87),(87,89),(93,171),(94,168),(95,237),(96,176),(97,178),(104,141),(115,122),(122,121),(127,254),(132,199),(133,261),(163,22),(169,234),(181,184),(195,252),(205,210),(210,212),(243,298),(258,304),(281,286),(282,288),(288,344),(291,4),(314,364),(368,25)]
theorem QX:iX Tryz.prog 45 [.i,.i,.i,.i,.i,.i]:=⟨by kernel_rfl,fun vs us r h0=>by
 obtain ⟨a0,vs,b0,us,r0,rfl,rfl,h1,rfl⟩:=aS h0;obtain ⟨a1,vs,b1,us,r1,rfl,rfl,h2,rfl⟩:=aS h1;obtain ⟨a2,vs,b2,us,r2,rfl,rfl,h3,rfl⟩:=aS h2;obtain ⟨a3,vs,b3,us,r3,rfl,rfl,h4,rfl⟩:=aS h3;obtain ⟨a4,vs,b4,us,r4,rfl,rfl,h5,rfl⟩:=aS h4;obtain ⟨a5,vs,b5,us,r5,rfl,rfl,h6,rfl⟩:=aS h5;obtain ⟨rfl,rfl,rfl⟩:=dn h6;intro w;clear h0;constructor<;>simp[go_sem]<;>(repeat' split)<;>simp_all⟩
theorem QY:iX Tryz.prog 48 [.i,.i,.b,.b]:=⟨by kernel_rfl,fun vs us r h0=>by
 obtain ⟨a0,vs,b0,us,r0,rfl,rfl,h1,rfl⟩:=aS h0;obtain ⟨a1,vs,b1,us,r1,rfl,rfl,h2,rfl⟩:=aS h1;obtain ⟨a2,vs,b2,us,r2,rfl,rfl,h3,rfl⟩:=NJ h2;obtain ⟨a3,vs,b3,us,r3,rfl,rfl,h4,rfl⟩:=NJ h3;obtain ⟨rfl,rfl,rfl⟩:=dn h4;intro w;clear h0;constructor<;>simp[go_sem]<;>(repeat' split)<;>simp_all⟩
theorem QZ:iX Tryz.prog 61 [.i,.i,.i]:=⟨by kernel_rfl,fun vs us r h0=>by
 obtain ⟨a0,vs,b0,us,r0,rfl,rfl,h1,rfl⟩:=aS h0;obtain ⟨a1,vs,b1,us,r1,rfl,rfl,h2,rfl⟩:=aS h1;obtain ⟨a2,vs,b2,us,r2,rfl,rfl,h3,rfl⟩:=aS h2;obtain ⟨rfl,rfl,rfl⟩:=dn h3;intro w;clear h0;constructor<;>simp[go_sem]<;>(repeat' split)<;>simp_all⟩
theorem Q1:iX Tryz.prog 76 [.i,.i,.i,.i,.i,.i]:=⟨by kernel_rfl,fun vs us r h0=>by
 obtain ⟨a0,vs,b0,us,r0,rfl,rfl,h1,rfl⟩:=aS h0;obtain ⟨a1,vs,b1,us,r1,rfl,rfl,h2,rfl⟩:=aS h1;obtain ⟨a2,vs,b2,us,r2,rfl,rfl,h3,rfl⟩:=aS h2;obtain ⟨a3,vs,b3,us,r3,rfl,rfl,h4,rfl⟩:=aS h3;obtain ⟨a4,vs,b4,us,r4,rfl,rfl,h5,rfl⟩:=aS h4;obtain ⟨a5,vs,b5,us,r5,rfl,rfl,h6,rfl⟩:=aS h5;obtain ⟨rfl,rfl,rfl⟩:=dn h6;intro w;clear h0;constructor<;>simp[go_sem]<;>(repeat' split)<;>simp_all⟩
theorem OP:iX Tryz.prog 113 [.s,.i,.i,.i,.i]:=⟨by kernel_rfl,fun vs us r h0=>by
 obtain ⟨a0,vs,b0,us,r0,rfl,rfl,h1,rfl⟩:=Ji h0;obtain ⟨a1,vs,b1,us,r1,rfl,rfl,h2,rfl⟩:=aS h1;obtain ⟨a2,vs,b2,us,r2,rfl,rfl,h3,rfl⟩:=aS h2;obtain ⟨a3,vs,b3,us,r3,rfl,rfl,h4,rfl⟩:=aS h3;obtain ⟨a4,vs,b4,us,r4,rfl,rfl,h5,rfl⟩:=aS h4;obtain ⟨rfl,rfl,rfl⟩:=dn h5;intro w;clear h0;constructor<;>simp[go_sem]<;>(repeat' split)<;>simp_all⟩
theorem OQ:iX Tryz.prog 124 [.i,.i,.i,.i,.i]:=⟨by kernel_rfl,fun vs us r h0=>by
 obtain ⟨a0,vs,b0,us,r0,rfl,rfl,h1,rfl⟩:=aS h0;obtain ⟨a1,vs,b1,us,r1,rfl,rfl,h2,rfl⟩:=aS h1;obtain ⟨a2,vs,b2,us,r2,rfl,rfl,h3,rfl⟩:=aS h2;obtain ⟨a3,vs,b3,us,r3,rfl,rfl,h4,rfl⟩:=aS h3;obtain ⟨a4,vs,b4,us,r4,rfl,rfl,h5,rfl⟩:=aS h4;obtain ⟨rfl,rfl,rfl⟩:=dn h5;intro w;clear h0;constructor<;>simp[go_sem]<;>(repeat' split)<;>simp_all⟩
theorem OR:iX Tryz.prog 141 [.i,.i]:=⟨by kernel_rfl,fun vs us r h0=>by
 obtain ⟨a0,vs,b0,us,r0,rfl,rfl,h1,rfl⟩:=aS h0;obtain ⟨a1,vs,b1,us,r1,rfl,rfl,h2,rfl⟩:=aS h1;obtain ⟨rfl,rfl,rfl⟩:=dn h2;intro w;clear h0;constructor<;>simp[go_sem]<;>(repeat' split)<;>simp_all⟩
theorem OS:iX Tryz.prog 147 [.i,.i,.i,.i,.i,.i,.i]:=⟨by kernel_rfl,fun vs us r h0=>by
 obtain ⟨a0,vs,b0,us,r0,rfl,rfl,h1,rfl⟩:=aS h0;obtain ⟨a1,vs,b1,us,r1,rfl,rfl,h2,rfl⟩:=aS h1;obtain ⟨a2,vs,b2,us,r2,rfl,rfl,h3,rfl⟩:=aS h2;obtain ⟨a3,vs,b3,us,r3,rfl,rfl,h4,rfl⟩:=aS h3;obtain ⟨a4,vs,b4,us,r4,rfl,rfl,h5,rfl⟩:=aS h4;obtain ⟨a5,vs,b5,us,r5,rfl,rfl,h6,rfl⟩:=aS h5;obtain ⟨a6,vs,b6,us,r6,rfl,rfl,h7,rfl⟩:=aS h6;obtain ⟨rfl,rfl,rfl⟩:=dn h7;intro w;clear h0;constructor<;>simp[go_sem]<;>(repeat' split)<;>simp_all⟩
theorem OT:iX Tryz.prog 168 [.i,.i,.i,.i,.i,.i,.i]:=⟨by kernel_rfl,fun vs us r h0=>by
 obtain ⟨a0,vs,b0,us,r0,rfl,rfl,h1,rfl⟩:=aS h0;obtain ⟨a1,vs,b1,us,r1,rfl,rfl,h2,rfl⟩:=aS h1;obtain ⟨a2,vs,b2,us,r2,rfl,rfl,h3,rfl⟩:=aS h2;obtain ⟨a3,vs,b3,us,r3,rfl,rfl,h4,rfl⟩:=aS h3;obtain ⟨a4,vs,b4,us,r4,rfl,rfl,h5,rfl⟩:=aS h4;obtain ⟨a5,vs,b5,us,r5,rfl,rfl,h6,rfl⟩:=aS h5;obtain ⟨a6,vs,b6,us,r6,rfl,rfl,h7,rfl⟩:=aS h6;obtain ⟨rfl,rfl,rfl⟩:=dn h7;intro w;clear h0;constructor<;>simp[go_sem]<;>(repeat' split)<;>simp_all⟩
theorem OU:iX Tryz.prog 173 [.s,.i,.i,.i,.i]:=⟨by kernel_rfl,fun vs us r h0=>by
 obtain ⟨a0,vs,b0,us,r0,rfl,rfl,h1,rfl⟩:=Ji h0;obtain ⟨a1,vs,b1,us,r1,rfl,rfl,h2,rfl⟩:=aS h1;obtain ⟨a2,vs,b2,us,r2,rfl,rfl,h3,rfl⟩:=aS h2;obtain ⟨a3,vs,b3,us,r3,rfl,rfl,h4,rfl⟩:=aS h3;obtain ⟨a4,vs,b4,us,r4,rfl,rfl,h5,rfl⟩:=aS h4;obtain ⟨rfl,rfl,rfl⟩:=dn h5;intro w;clear h0;constructor<;>simp[go_sem]<;>(repeat' split)<;>simp_all⟩
theorem OV:iX Tryz.prog 176 [.i,.i,.i,.i,.i]:=⟨by kernel_rfl,fun vs us r h0=>by
 obtain ⟨a0,vs,b0,us,r0,rfl,rfl,h1,rfl⟩:=aS h0;obtain ⟨a1,vs,b1,us,r1,rfl,rfl,h2,rfl⟩:=aS h1;obtain ⟨a2,vs,b2,us,r2,rfl,rfl,h3,rfl⟩:=aS h2;obtain ⟨a3,vs,b3,us,r3,rfl,rfl,h4,rfl⟩:=aS h3;obtain ⟨a4,vs,b4,us,r4,rfl,rfl,h5,rfl⟩:=aS h4;obtain ⟨rfl,rfl,rfl⟩:=dn h5;intro w;clear h0;constructor<;>simp[go_sem]<;>(repeat' split)<;>simp_all⟩
theorem OW:iX Tryz.prog 178 [.i,.i,.i]:=⟨by kernel_rfl,fun vs us r h0=>by
 obtain ⟨a0,vs,b0,us,r0,rfl,rfl,h1,rfl⟩:=aS h0;obtain ⟨a1,vs,b1,us,r1,rfl,rfl,h2,rfl⟩:=aS h1;obtain ⟨a2,vs,b2,us,r2,rfl,rfl,h3,rfl⟩:=aS h2;obtain ⟨rfl,rfl,rfl⟩:=dn h3;intro w;clear h0;constructor<;>simp[go_sem]<;>(repeat' split)<;>simp_all⟩
theorem OX:iX Tryz.prog 212 [.s,.i,.i]:=⟨by kernel_rfl,fun vs us r h0=>by
 obtain ⟨a0,vs,b0,us,r0,rfl,rfl,h1,rfl⟩:=Ji h0;obtain ⟨a1,vs,b1,us,r1,rfl,rfl,h2,rfl⟩:=aS h1;obtain ⟨a2,vs,b2,us,r2,rfl,rfl,h3,rfl⟩:=aS h2;obtain ⟨rfl,rfl,rfl⟩:=dn h3;intro w;clear h0;constructor<;>simp[go_sem]<;>(repeat' split)<;>simp_all⟩
theorem OY:iX Tryz.prog 234 [.i,.i,.i,.i]:=⟨by kernel_rfl,fun vs us r h0=>by
 obtain ⟨a0,vs,b0,us,r0,rfl,rfl,h1,rfl⟩:=aS h0;obtain ⟨a1,vs,b1,us,r1,rfl,rfl,h2,rfl⟩:=aS h1;obtain ⟨a2,vs,b2,us,r2,rfl,rfl,h3,rfl⟩:=aS h2;obtain ⟨a3,vs,b3,us,r3,rfl,rfl,h4,rfl⟩:=aS h3;obtain ⟨rfl,rfl,rfl⟩:=dn h4;intro w;clear h0;constructor<;>simp[go_sem]<;>(repeat' split)<;>simp_all⟩
theorem OZ:iX Tryz.prog 237 [.i,.i,.i,.i]:=⟨by kernel_rfl,fun vs us r h0=>by
 obtain ⟨a0,vs,b0,us,r0,rfl,rfl,h1,rfl⟩:=aS h0;obtain ⟨a1,vs,b1,us,r1,rfl,rfl,h2,rfl⟩:=aS h1;obtain ⟨a2,vs,b2,us,r2,rfl,rfl,h3,rfl⟩:=aS h2;obtain ⟨a3,vs,b3,us,r3,rfl,rfl,h4,rfl⟩:=aS h3;obtain ⟨rfl,rfl,rfl⟩:=dn h4;intro w;clear h0;constructor<;>simp[go_sem]<;>(repeat' split)<;>simp_all⟩
theorem O0:iX Tryz.prog 239 [.i,.i]:=⟨by kernel_rfl,fun vs us r h0=>by
 obtain ⟨a0,vs,b0,us,r0,rfl,rfl,h1,rfl⟩:=aS h0;obtain ⟨a1,vs,b1,us,r1,rfl,rfl,h2,rfl⟩:=aS h1;obtain ⟨rfl,rfl,rfl⟩:=dn h2;intro w;clear h0;constructor<;>simp[go_sem]<;>(repeat' split)<;>simp_all⟩
theorem O1:iX Tryz.prog 241 [.i,.i,.i,.i,.i,.i]:=⟨by kernel_rfl,fun vs us r h0=>by
 obtain ⟨a0,vs,b0,us,r0,rfl,rfl,h1,rfl⟩:=aS h0;obtain ⟨a1,vs,b1,us,r1,rfl,rfl,h2,rfl⟩:=aS h1;obtain ⟨a2,vs,b2,us,r2,rfl,rfl,h3,rfl⟩:=aS h2;obtain ⟨a3,vs,b3,us,r3,rfl,rfl,h4,rfl⟩:=aS h3;obtain ⟨a4,vs,b4,us,r4,rfl,rfl,h5,rfl⟩:=aS h4;obtain ⟨a5,vs,b5,us,r5,rfl,rfl,h6,rfl⟩:=aS h5;obtain ⟨rfl,rfl,rfl⟩:=dn h6;intro w;clear h0;constructor<;>simp[go_sem]<;>(repeat' split)<;>simp_all⟩
theorem O2:iX Tryz.prog 252 [.i,.i]:=⟨by kernel_rfl,fun vs us r h0=>by
 obtain ⟨a0,vs,b0,us,r0,rfl,rfl,h1,rfl⟩:=aS h0;obtain ⟨a1,vs,b1,us,r1,rfl,rfl,h2,rfl⟩:=aS h1;obtain ⟨rfl,rfl,rfl⟩:=dn h2;intro w;clear h0;constructor<;>simp[go_sem]<;>(repeat' split)<;>simp_all⟩
theorem O3:iX Tryz.prog 261 [.i,.i,.i,.i]:=⟨by kernel_rfl,fun vs us r h0=>by
 obtain ⟨a0,vs,b0,us,r0,rfl,rfl,h1,rfl⟩:=aS h0;obtain ⟨a1,vs,b1,us,r1,rfl,rfl,h2,rfl⟩:=aS h1;obtain ⟨a2,vs,b2,us,r2,rfl,rfl,h3,rfl⟩:=aS h2;obtain ⟨a3,vs,b3,us,r3,rfl,rfl,h4,rfl⟩:=aS h3;obtain ⟨rfl,rfl,rfl⟩:=dn h4;intro w;clear h0;constructor<;>simp[go_sem]<;>(repeat' split)<;>simp_all⟩
theorem O4:iX Tryz.prog 298 [.i,.i]:=⟨by kernel_rfl,fun vs us r h0=>by
 obtain ⟨a0,vs,b0,us,r0,rfl,rfl,h1,rfl⟩:=aS h0;obtain ⟨a1,vs,b1,us,r1,rfl,rfl,h2,rfl⟩:=aS h1;obtain ⟨rfl,rfl,rfl⟩:=dn h2;intro w;clear h0;constructor<;>simp[go_sem]<;>(repeat' split)<;>simp_all⟩
theorem O5:iX Tryz.prog 371 [.i,.i]:=⟨by kernel_rfl,fun vs us r h0=>by
 obtain ⟨a0,vs,b0,us,r0,rfl,rfl,h1,rfl⟩:=aS h0;obtain ⟨a1,vs,b1,us,r1,rfl,rfl,h2,rfl⟩:=aS h1;obtain ⟨rfl,rfl,rfl⟩:=dn h2;intro w;clear h0;constructor<;>simp[go_sem]<;>(repeat' split)<;>simp_all⟩
theorem O6:iX Tryz.prog 387 [.i,.i]:=⟨by kernel_rfl,fun vs us r h0=>by
 obtain ⟨a0,vs,b0,us,r0,rfl,rfl,h1,rfl⟩:=aS h0;obtain ⟨a1,vs,b1,us,r1,rfl,rfl,h2,rfl⟩:=aS h1;obtain ⟨rfl,rfl,rfl⟩:=dn h2;intro w;clear h0;constructor<;>simp[go_sem]<;>(repeat' split)<;>simp_all⟩
def SZ:List (Nat×List EK):=[(45,[.i,.i,.i,.i,.i,.i]),(48,[.i,.i,.b,.b]),(61,[.i,.i,.i]),(76,[.i,.i,.i,.i,.i,.i]),(113,[.s,.i,.i,.i,.i]),(124,[.i,.i,.i,.i,.i]),(141,[.i,.i]),(147,[.i,.i,.i,.i,.i,.i,.i]),(168,[.i,.i,.i,.i,.i,.i,.i]),(173,[.s,.i,.i,.i,.i]),(176,[.i,.i,.i,.i,.i]),(178,[.i,.i,.i]),(212,[.s,.i,.i]),(234,[.i,.i,.i,.i]),(237,[.i,.i,.i,.i]),(239,[.i,.i]),(241,[.i,.i,.i,.i,.i,.i]),(252,[.i,.i]),(261,[.i,.i,.i,.i]),(298,[.i,.i]),(371,[.i,.i]),(387,[.i,.i])]
def SY:List (Nat×Nat):=[]
def lH:Tb:=⟨S7,S2,S1,S0,S4,SW,S8,S6,S3,S5,SZ,SY,false⟩
theorem gA:lH.Ok Tryz.prog:=⟨by kernel_rfl,by kernel_rfl,by kernel_rfl,by kernel_rfl,by kernel_rfl,by kernel_rfl,by kernel_rfl,by kernel_rfl,by kernel_rfl,by kernel_rfl,⟨QX,QY,QZ,Q1,OP,OQ,OR,OS,OT,OU,OV,OW,OX,OY,OZ,O0,O1,O2,O3,O4,O5,O6,trivial⟩,by kernel_rfl⟩
theorem Tm (em:Bool) (x:Int) (w:World):(Instr.checkKey em 9999 3 (.int .i64 x)).run Tryz.prog w= .ok () w:=Go.MapKept.run_checkKey (d:= .int .i64) (by kernel_rfl) (show Go.MapKept.IsKey (.int .i64) (.int .i64 x) from rfl) em 9998
theorem Tw (a b:Int) (w:World):(Op.equalIn 9999 3 (.int .i64 a) (.int .i64 b)).run Tryz.prog w= .ok (a==b) w:=by
 show (Op.equalIn (9998+1) 3 _ _).run _ w=_;rw[Op.equalIn];simp[go_sem]
theorem Mn:pq Tryz.prog 149 2:=by
 refine xl (by kernel_rfl) ?_ ?_
 ·intro w em ks hk
  obtain ⟨a,b,rfl⟩:=Pf hk;show (Instr.checkKey em (9999+1) 149 _).run _ w=_
  rw[Instr.checkKey];simp[go_sem,eo,Tm,List.range']
 ·intro w xs ys hx hy
  obtain ⟨a,b,rfl⟩:=Pf hx;obtain ⟨a',b',rfl⟩:=Pf hy;unfold Op.equal;show (Op.equalIn (9999+1) 149 _ _).run _ w=_
  rw[Op.equalIn];simp[go_sem,eo,Tw,List.range']
  repeat' split
  all_goals simp_all
theorem Mo:pq Tryz.prog 380 4:=by
 refine xl (by kernel_rfl) ?_ ?_
 ·intro w em ks hk
  obtain ⟨a,b,c,d,rfl⟩:=Pg hk;show (Instr.checkKey em (9999+1) 380 _).run _ w=_
  rw[Instr.checkKey];simp[go_sem,eo,Tm]
 ·intro w xs ys hx hy
  obtain ⟨a,b,c,d,rfl⟩:=Pg hx;obtain ⟨a',b',c',d',rfl⟩:=Pg hy;refine yZ ?_;simp[go_sem]
  repeat' split
  all_goals simp_all
theorem Q9:pq Tryz.prog 3 1:=GR (by kernel_rfl)
def bF:El:=⟨[(22,Df),(23,Si),(24,Sf),(25,Sc),(33,Se),(37,QV),(71,Sa),(84,QV),(87,R9),(104,Sh),(122,Sg),(181,Sb),(210,Sj),(243,QU),(291,Jf)],[(149,2,Df),(231,3,Df),(235,4,Jf),(242,144,Jf),(279,4,Df),(326,6,Df)],[(148,2,false,Df),(280,4,true,Sd),(338,1,false,Df)]⟩
theorem uI:bF.Ok Tryz.prog:=⟨by kernel_rfl,⟨⟨fun _=>rfl,by decide⟩,⟨fun _=>rfl,by decide⟩,⟨fun _=>rfl,by decide⟩,⟨fun _=>rfl,by decide⟩,⟨fun _=>rfl,by decide⟩,⟨fun _=>rfl,by decide⟩,⟨fun _=>rfl,by decide⟩,⟨fun _=>rfl,by decide⟩,⟨fun _=>rfl,by decide⟩,⟨fun _=>rfl,by decide⟩,⟨fun _=>rfl,by decide⟩,⟨fun _=>rfl,by decide⟩,⟨fun _=>rfl,by decide⟩,⟨fun _=>rfl,by decide⟩,⟨fun _=>rfl,by decide⟩,trivial⟩,by kernel_rfl,⟨⟨JL (k:=149) (e:=3) (z:= .int .i64 0) (x:= .v (.int .i64 0)) (by kernel_rfl) Mn (by kernel_rfl) (by kernel_rfl),⟨fun _=>rfl,by decide⟩⟩,⟨Pk (k:=380) (e:=63) (vs:= #[.int .i64 0,.int .i64 0,.slice none 0 0,.slice none 0 0,.slice none 0 0,.int .i64 0,.int .i64 0]) (fs:=O7 PB) (by kernel_rfl) Mo (by kernel_rfl) (by kernel_rfl),⟨fun _=>rfl,by decide⟩⟩,⟨JL (k:=3) (e:=3) (z:= .int .i64 0) (x:= .v (.int .i64 0)) (by kernel_rfl) Q9 (by kernel_rfl) (by kernel_rfl),⟨fun _=>rfl,by decide⟩⟩,trivial⟩⟩
theorem aA:Tryz.prog.follows .mixedOrders=true:=by kernel_rfl
theorem eE {ops:Array Oper} {rest:List Oper} {l:SL} {H:SH} {R:Rg} {rest':List Oper} {l':SL} {H':SH} {R':Rg} {p:Prop} (h:Ko lH bF ops rest l H R=some ⟨rest',l',H',R',p⟩) (hp:p) (hk:WR Tryz.prog ops rest' (SS l' H') R'):WR Tryz.prog ops rest (SS l H) R:=zI gA uI h hp hk
inductive aM:Prop->Prop->Prop where
 |go {n0:Nat} {c:Code} {l:SL} {H:SH} {K:bI->St->Prop} {q:Prop} (h:Tg Tryz.prog lH bF n0 c l H K=some q):aM (W Tryz.prog (DR Tryz.prog) n0 c (SS l H) K) q
 |rest {ops:Array Oper} {rest:List Oper} {l:SL} {H:SH} {R:Rg} {q:Prop} (h:Th Tryz.prog lH bF ops rest l H R=some q):aM (WR Tryz.prog ops rest (SS l H) R) q
 |ret {fn:Func} {r:SV} {H':SH} {e:bI} {l:SL} {H:SH} {ys:List ST} (hy:MW lH l H fn.results.toList e=some ys):aM (Nx Tryz.prog fn r.den (aR H') e (SS l H)) ((ql ys).den=r.den/\bu H H')
 |retP {fn:Func} {r:SV} {e:bI} {l:SL} {H:SH} {v:SV} {p:Prop} (hy:To lH l H fn.results.toList e=some ⟨[],[(0,.v v)],[],.plain (fun _=>True),p⟩):aM (CJ Tryz.prog fn r.den e (SS l H)) (p/\v.den=r.den)
theorem aM.o {A B:Prop} (h:aM A B) (b:B):A:=by
 cases h with
 |go h=>exact P6 gA uI h b
 |rest h=>exact P7 gA uI h b
 |ret hy=>
  obtain ⟨h1,rfl|rfl⟩:=FF hy
  ·exact Ey gA trivial rfl h1 b.1 b.2
  ·exact Ey gA trivial rfl h1 b.1 b.2
 |retP hy=>
  obtain ⟨h1,rfl|rfl⟩:=Pb hy
  ·exact IB gA trivial rfl h1 b.1 b.2
  ·exact IB gA trivial rfl h1 b.1 b.2
theorem RQ {A B:Prop} (b:B) (h:aM A B:=by (with_reducible constructor);apply Eq.refl):A:=h.o b
theorem DQ {A B:Prop} (b:B) (h:aP A B:=by constructor):A:=h.o b
theorem KQ {A B:Prop} (b:B) (h:Wk A B:=by constructor):A:=h.o b
theorem nb {a b:Nat} (h:Nat.ble a b=true):a<=b:=Nat.le_of_ble_eq_true h
theorem VQ {α:Type} {z:Nat} {F:α->List ag} {V:α->List SC} (h:wL z F V:=by with_unfolding_all exact fun _=>⟨rfl,rfl⟩):wL z F V:=h
theorem BQ {ops:Array Oper} {a:List Cl} (h:oB ops a.reverse=true:=by kernel_rfl):R0 ops a:=h
theorem FQ {f:FuncId} {fn:Func} {c:Code} {args:List SV} {H H':SH} {r:SV} {n0:Nat} (hf:Tryz.prog.funcs[f]? =some fn) (h:W Tryz.prog (DR Tryz.prog) n0 c (SS (cu 0 args) H) (Nx Tryz.prog fn r.den (aR H'))) (hb:fn.body=some c:=by rfl) (hn:(fn.name== "runtime.NumGoroutine")=false:=by kernel_rfl) (hca:args.length<=fn.ntmps:=by exact nb (by kernel_rfl)) (hcode:codeOk fn.ntmps c=true:=by kernel_rfl) (h1:pY r=true:=by rfl) (h2:Lm H'.length r=true:=by rfl) (h3:H.length<=H'.length:=by exact nb rfl) (h4:jN H'.length H'=true:=by rfl) (h0:H.length=n0:=by rfl):cd Tryz.prog f args H r H':=cn aA hf hb hn hca hcode h1 h2 h3 h4 h0 h
theorem PQ {f:FuncId} {fn:Func} {c:Code} {args:List SV} {r:SV} (hf:Tryz.prog.funcs[f]? =some fn) (h:W Tryz.prog (DR Tryz.prog) 0 c (SS (cu 0 args) []) (CJ Tryz.prog fn r.den)) (hb:fn.body=some c:=by rfl) (hn:(fn.name== "runtime.NumGoroutine")=false:=by kernel_rfl) (hca:args.length<=fn.ntmps:=by exact nb (by kernel_rfl)) (hcode:codeOk fn.ntmps c=true:=by kernel_rfl) (h1:pY r=true:=by rfl) (h2:Lm 0 r=true:=by rfl):cd Tryz.prog f args [] r []:=bT aA hf hb hn hca hcode h1 h2 h
theorem WQ {n0:Nat} {l l':SL} {H H':SH} (hH:aN H H') (h:Ln l l') (h0:Nat.ble n0 H'.length=true:=by rfl) (hg:jN H'.length (vR H H'.length true)=true:=by rfl) (hl:NU H'.length l'=true:=by rfl):di n0 (SS l H) (SS l' H'):=ak h0 hg hl hH h
end Go.Proofs.YtjkeeocnekggfaaGreat.Av
namespace Go.Proofs.YtjkeeocnekggfaaGreat
open Go.RowKit
theorem cP {k:IntKind} {a b:Int} (h:a=b):Ending.returned (.int k a)= .returned (.int k b):=by rw[h]
theorem vG {k j:IntKind} {a b c d:Int} (h:a=b) (h2:c=d):Ending.returned (.tuple #[.int k a,.int j c])= .returned (.tuple #[.int k b,.int j d]):=by rw[h,h2]
theorem gu {B:Nat} {a w:World} (h:Below B a w) (n:Nat):Below B a (w.drewN n):=⟨h.os,h.tape,h.output,h.size,h.block⟩
end Go.Proofs.YtjkeeocnekggfaaGreat
namespace Go.Proofs.YtjkeeocnekggfaaGreat
open Go.RowKit
theorem aO {a b:Bool} (h:a=b):Ending.returned (.bool a)= .returned (.bool b):=by rw[h]
theorem fK (c:Nat) (w:World) (hc:c<256):
  Calls Tryz.prog 235 #[.int .u8 c] w fun e w'=>e= .returned (.bool (nn c))/\w=w':=by
 go_enter Tryz.func235,Tryz.ntmps235
 go_wp2
 all_goals
  go_ret
  exact ⟨aO (by rw[Bool.eq_iff_iff];simp[nn];try omega),rfl⟩
theorem fe (c:Nat) (w:World) (hc:c<256):
  Calls Tryz.prog 200 #[.int .u8 c] w fun e w'=>e= .returned (.bool (nn c))/\w=w':=by
 go_enter Tryz.func200,Tryz.ntmps200
 go_wp2
 all_goals
  go_ret
  exact ⟨aO (by rw[Bool.eq_iff_iff];simp[nn];try omega),rfl⟩
theorem nk (c:Nat) (w:World) (hc:c<256):
  Calls Tryz.prog 236 #[.int .u8 c] w fun e w'=>e= .returned (.bool (yQ c))/\w=w':=by
 go_enter Tryz.func236,Tryz.ntmps236
 go_wp2
 all_goals
  go_ret
  exact ⟨aO (by rw[Bool.eq_iff_iff];simp[yQ];try omega),rfl⟩
theorem mm (c:Nat) (w:World) (hc:c<256):
  Calls Tryz.prog 201 #[.int .u8 c] w fun e w'=>e= .returned (.bool (yQ c))/\w=w':=by
 go_enter Tryz.func201,Tryz.ntmps201
 go_wp2
 all_goals
  go_ret
  exact ⟨aO (by rw[Bool.eq_iff_iff];simp[yQ];try omega),rfl⟩
theorem xw (c:Nat):(xv c=true/\(nn c=true\/(nn c=false/\yQ c=true)\/(nn c=false/\yQ c=false/\c=95)))\/(xv c=false/\nn c=false/\yQ c=false/\c≠95):=by
 unfold xv;by_cases h:c=95
 ·subst h;left;decide
 ·have:(c==95)=false:=by simpa using h
  cases nn c<;>cases yQ c<;>simp[h,this]
theorem LJ (s:ByteArray) (h0:0<s.size) (h:nn s[0].toNat=true):(s.data.toList.take 1).all (fun c=>xv c.toNat)=true:=by
 rw[uh s 0 h0,Mr h];rfl
theorem vh (s:ByteArray) (w:World) (hs:s.size<=9223372036854775807):
  Calls Tryz.prog 220 #[.string s] w fun e w'=>e= .returned (.bool (dr s))/\w=w':=by
 by_cases h0:s.size<1
 ·rw[kf (.inl h0)]
  go_enter Tryz.func220,Tryz.ntmps220
  go_wp2
  go_ret
  exact ⟨rfl,rfl⟩
 ·by_cases h1:12<s.size
  ·rw[kf (.inr h1)]
   have h0':1<=s.size:=by omega
   go_enter Tryz.func220,Tryz.ntmps220
   go_wp2
   go_ret
   exact ⟨rfl,rfl⟩
  ·have h2:0<s.size:=by omega
   have h0':1<=s.size:=by omega
   have h3:s.size<=12:=by omega
   by_cases hl:nn s[0].toNat=true
   ·have Hl:=Lib.hid hl
    clear hl
    go_enter Tryz.func220,Tryz.ntmps220
    go_wp2_with fail
    refine (fK _ _ (UInt8.toNat_lt _)).mono ?_;rintro e w' ⟨rfl,rfl⟩;rw[Hl.out]
    go_wp2
    go_loop [20] (fun i=> ∃ k:Nat,0<=k/\k<=s.size/\i= .int .i64 k/\Hid ((s.data.toList.take k).all (fun c=>xv c.toNat)=true)) (fun i=>s.size-(intOf i).toNat)
    case atStart=>exact ⟨0,by omega,by omega,rfl,Lib.hid rfl⟩
    case round=>
     obtain ⟨k,hk0,hk,rfl,Hk⟩:=hrel;by_cases hlt:k<s.size
     ·have Hup:=Lib.hid (uh s k hlt (fun c=>xv c.toNat))
      rcases xw s[k].toNat with ⟨hok,hy|⟨hx,hy⟩|⟨hx,hy,hz⟩⟩|⟨hok,hx,hy,hz⟩
      ·have HL:=Lib.hid hy
       have Hk1:Hid ((s.data.toList.take (k+1)).all (fun c=>xv c.toNat)=true):=Lib.hid (by rw[Hup.out,Hk.out,hok];rfl);clear hok hy
       go_wp2_with (go_at_call 235;refine (fK _ _ (UInt8.toNat_lt _)).mono ?_;rintro e w' ⟨rfl,rfl⟩;rw[HL.out])
       go_round
       case rel=>exact ⟨k+1,by omega,by omega,by go_num,Hk1⟩
       case measure=>simp[intOf];omega
      ·have HL:=Lib.hid hx
       have HD:=Lib.hid hy;have Hk1:Hid ((s.data.toList.take (k+1)).all (fun c=>xv c.toNat)=true):=Lib.hid (by rw[Hup.out,Hk.out,hok];rfl);clear hok hx hy
       go_wp2_with (first|(go_at_call 235;refine (fK _ _ (UInt8.toNat_lt _)).mono ?_;rintro e w' ⟨rfl,rfl⟩;rw[HL.out])|(go_at_call 236;refine (nk _ _ (UInt8.toNat_lt _)).mono ?_;rintro e w' ⟨rfl,rfl⟩;rw[HD.out]))
       go_round
       case rel=>exact ⟨k+1,by omega,by omega,by go_num,Hk1⟩
       case measure=>simp[intOf];omega
      ·have HL:=Lib.hid hx
       have HD:=Lib.hid hy;have Hk1:Hid ((s.data.toList.take (k+1)).all (fun c=>xv c.toNat)=true):=Lib.hid (by rw[Hup.out,Hk.out,hok];rfl);have hb:((s[k].toNat:Int) != 95)=false:=by rw[hz];rfl
       clear hok hx hy hz
       go_wp2_with (first|(go_at_call 235;refine (fK _ _ (UInt8.toNat_lt _)).mono ?_;rintro e w' ⟨rfl,rfl⟩;rw[HL.out])|(go_at_call 236;refine (nk _ _ (UInt8.toNat_lt _)).mono ?_;rintro e w' ⟨rfl,rfl⟩;rw[HD.out]))
       go_round
       case rel=>exact ⟨k+1,by omega,by omega,by go_num,Hk1⟩
       case measure=>simp[intOf];omega
      ·have HL:=Lib.hid hx
       have HD:=Lib.hid hy;have HN:=Lib.hid (Bs k hlt hok);have hb:((s[k].toNat:Int) != 95)=true:=by rw[bne_iff_ne];omega
       clear hok hx hy hz
       go_wp2_with (first|(go_at_call 235;refine (fK _ _ (UInt8.toNat_lt _)).mono ?_;rintro e w' ⟨rfl,rfl⟩;rw[HL.out])|(go_at_call 236;refine (nk _ _ (UInt8.toNat_lt _)).mono ?_;rintro e w' ⟨rfl,rfl⟩;rw[HD.out]))
       go_ret
       exact ⟨aO HN.out.symm,rfl⟩
     ·have HN:Hid (dr s=true):=Lib.hid (Br h2 h3 Hl.out (by have:=Hk.out;rwa [List.take_of_length_le (by rw[wT];omega)] at this))
      go_wp2
      go_ret
      exact ⟨aO HN.out.symm,rfl⟩
   ·have Hl:=Lib.hid (Bool.eq_false_iff.2 hl)
    have HN:=Lib.hid (xt h2 (Bool.eq_false_iff.2 hl));clear hl
    go_enter Tryz.func220,Tryz.ntmps220
    go_wp2_with (go_at_call 235;refine (fK _ _ (UInt8.toNat_lt _)).mono ?_;rintro e w' ⟨rfl,rfl⟩;rw[Hl.out])
    go_ret
    exact ⟨aO HN.out.symm,rfl⟩
theorem BP (s:ByteArray) (w:World) (hs:s.size<=9223372036854775807):
  Calls Tryz.prog 151 #[.string s] w fun e w'=>e= .returned (.bool (dr s))/\w=w':=by
 by_cases h0:s.size<1
 ·rw[kf (.inl h0)]
  go_enter Tryz.func151,Tryz.ntmps151
  go_wp2
  go_ret
  exact ⟨rfl,rfl⟩
 ·by_cases h1:12<s.size
  ·rw[kf (.inr h1)]
   have h0':1<=s.size:=by omega
   go_enter Tryz.func151,Tryz.ntmps151
   go_wp2
   go_ret
   exact ⟨rfl,rfl⟩
  ·have h2:0<s.size:=by omega
   have h0':1<=s.size:=by omega
   have h3:s.size<=12:=by omega
   by_cases hl:nn s[0].toNat=true
   ·have Hl:=Lib.hid hl
    clear hl
    go_enter Tryz.func151,Tryz.ntmps151
    go_wp2_with fail
    refine (fe _ _ (UInt8.toNat_lt _)).mono ?_;rintro e w' ⟨rfl,rfl⟩;rw[Hl.out]
    go_wp2
    go_loop [3] (fun i=> ∃ k:Nat,1<=k/\k<=s.size/\i= .int .i64 k/\Hid ((s.data.toList.take k).all (fun c=>xv c.toNat)=true)) (fun i=>s.size-(intOf i).toNat)
    case atStart=>exact ⟨1,by omega,by omega,rfl,Lib.hid (LJ s h2 Hl.out)⟩
    case round=>
     obtain ⟨k,hk0,hk,rfl,Hk⟩:=hrel;by_cases hlt:k<s.size
     ·have Hup:=Lib.hid (uh s k hlt (fun c=>xv c.toNat))
      rcases xw s[k].toNat with ⟨hok,hy|⟨hx,hy⟩|⟨hx,hy,hz⟩⟩|⟨hok,hx,hy,hz⟩
      ·have HL:=Lib.hid hy
       have Hk1:Hid ((s.data.toList.take (k+1)).all (fun c=>xv c.toNat)=true):=Lib.hid (by rw[Hup.out,Hk.out,hok];rfl);clear hok hy
       go_wp2_with (go_at_call 200;refine (fe _ _ (UInt8.toNat_lt _)).mono ?_;rintro e w' ⟨rfl,rfl⟩;rw[HL.out])
       go_round
       case rel=>exact ⟨k+1,by omega,by omega,by go_num,Hk1⟩
       case measure=>simp[intOf];omega
      ·have HL:=Lib.hid hx
       have HD:=Lib.hid hy;have Hk1:Hid ((s.data.toList.take (k+1)).all (fun c=>xv c.toNat)=true):=Lib.hid (by rw[Hup.out,Hk.out,hok];rfl);clear hok hx hy
       go_wp2_with (first|(go_at_call 200;refine (fe _ _ (UInt8.toNat_lt _)).mono ?_;rintro e w' ⟨rfl,rfl⟩;rw[HL.out])|(go_at_call 201;refine (mm _ _ (UInt8.toNat_lt _)).mono ?_;rintro e w' ⟨rfl,rfl⟩;rw[HD.out]))
       go_round
       case rel=>exact ⟨k+1,by omega,by omega,by go_num,Hk1⟩
       case measure=>simp[intOf];omega
      ·have HL:=Lib.hid hx
       have HD:=Lib.hid hy;have Hk1:Hid ((s.data.toList.take (k+1)).all (fun c=>xv c.toNat)=true):=Lib.hid (by rw[Hup.out,Hk.out,hok];rfl);have hb:((s[k].toNat:Int) != 95)=false:=by rw[hz];rfl
       clear hok hx hy hz
       go_wp2_with (first|(go_at_call 200;refine (fe _ _ (UInt8.toNat_lt _)).mono ?_;rintro e w' ⟨rfl,rfl⟩;rw[HL.out])|(go_at_call 201;refine (mm _ _ (UInt8.toNat_lt _)).mono ?_;rintro e w' ⟨rfl,rfl⟩;rw[HD.out]))
       go_round
       case rel=>exact ⟨k+1,by omega,by omega,by go_num,Hk1⟩
       case measure=>simp[intOf];omega
      ·have HL:=Lib.hid hx
       have HD:=Lib.hid hy;have HN:=Lib.hid (Bs k hlt hok);have hb:((s[k].toNat:Int) != 95)=true:=by rw[bne_iff_ne];omega
       clear hok hx hy hz
       go_wp2_with (first|(go_at_call 200;refine (fe _ _ (UInt8.toNat_lt _)).mono ?_;rintro e w' ⟨rfl,rfl⟩;rw[HL.out])|(go_at_call 201;refine (mm _ _ (UInt8.toNat_lt _)).mono ?_;rintro e w' ⟨rfl,rfl⟩;rw[HD.out]))
       go_ret
       exact ⟨aO HN.out.symm,rfl⟩
     ·have HN:Hid (dr s=true):=Lib.hid (Br h2 h3 Hl.out (by have:=Hk.out;rwa [List.take_of_length_le (by rw[wT];omega)] at this))
      go_wp2
      go_ret
      exact ⟨aO HN.out.symm,rfl⟩
   ·have Hl:=Lib.hid (Bool.eq_false_iff.2 hl)
    have HN:=Lib.hid (xt h2 (Bool.eq_false_iff.2 hl));clear hl
    go_enter Tryz.func151,Tryz.ntmps151
    go_wp2_with (go_at_call 200;refine (fe _ _ (UInt8.toNat_lt _)).mono ?_;rintro e w' ⟨rfl,rfl⟩;rw[Hl.out])
    go_ret
    exact ⟨aO HN.out.symm,rfl⟩
end Go.Proofs.YtjkeeocnekggfaaGreat
namespace Go.Proofs.YtjkeeocnekggfaaGreat
def yp (l:List ByteArray):Prop:= ∀ s∈l,s.size<=9223372036854775807
theorem SJ (t s:ByteArray):(t.toList==s.toList)=Ad s t:=by
 rw[ByteArray.toList_eq,ByteArray.toList_eq,Bool.eq_iff_iff,pU,beq_iff_eq];exact ⟨fun h=>by cases s;cases t;simp at h;rw[h],fun h=>by rw[h]⟩
theorem JO (s:ByteArray) (l:List ByteArray) {k:Nat} (h:k<l.length):lg s (l.take (k+1))=(lg s (l.take k)||Ad s (l.getD k ⟨#[]⟩)):=by
 unfold lg;rw[List.take_succ_eq_append_getElem h,List.any_append,List.any_cons,List.any_nil,Bool.or_false,List.getD_eq_getElem?_getD,List.getElem?_eq_getElem h];rfl
theorem JP (s:ByteArray) (l:List ByteArray) {k i:Nat} (h:k<i) (hi:i<=l.length) (he:Ad s (l.getD k ⟨#[]⟩)=true):lg s (l.take i)=true:=by
 unfold lg;rw[List.getD_eq_getElem?_getD,List.getElem?_eq_getElem (show k<l.length by omega)] at he;exact List.any_eq_true.2 ⟨_,List.mem_iff_getElem.2 ⟨k,by rw[List.length_take];omega,List.getElem_take ..⟩,he⟩
end Go.Proofs.YtjkeeocnekggfaaGreat
namespace Go.Proofs.YtjkeeocnekggfaaGreat.Av
open Go.RowKit
def Plain (r:ad) (v:Value):Prop:= ∀ w κ ρ l,bM w κ ρ l r v
theorem ob {n:Int} {k:IntKind}:Plain (.c (.f (.v (.int k n)))) (.int k n):=fun _ _ _ _=>cy.v _ rfl
theorem MP {b:Bool}:Plain (aB b) (.bool b):=fun _ _ _ _=>cy.v _ rfl
theorem MO {a b:aa} {u v:Value} (ha:Plain (.c a) u) (hb:Plain (.c b) v) (fa:a.flat=true) (fb:b.flat=true):Plain (.cC [.c a,.c b]) (.tuple #[u,v]):=fun w κ ρ l=>by
 refine ⟨#[u,v],rfl,rfl,fun i h h'=> ?_⟩
 match i,h with
 |0,_=>exact ⟨fa,ha w κ ρ l⟩
 |1,_=>exact ⟨fb,hb w κ ρ l⟩
theorem rz {P:Program} {f:FuncId} {args:List ad} {r:ad} (fn:Func) (hf:P.funcs[f]? =some fn) (hb:fn.body.isSome=true) (hn:(fn.name== "runtime.NumGoroutine")=false) (hflat:Flat r=true) (hrok:r.ok 0=true)
  (h: ∀ (w:World) (κ:Nat->BK) (ρ:Nat->Nat) (vals:Array Value),vals.size=args.length->(∀ i (h:i<args.length) (h':i<vals.size) l,bM w κ ρ l args[i] vals[i])-> ∃ v,Plain r v/\Calls P f vals w fun e w'=>e= .returned v/\Below w.heap.size w w'):Ok P f args [] r []:=by
 refine ⟨⟨fn,hf,hb,hn⟩,cG hflat,hrok,Nat.le_refl _,fun w κ ρ vals hs hr hok hH=> ?_⟩;obtain ⟨v,hp,hc⟩:=h w κ ρ vals hs hr;refine hc.mono ?_;rintro e w' ⟨rfl,hB⟩;refine ⟨v,fun g=>if g<w.heap.size then κ g else .lock none,ρ,rfl,fun l=>hp _ _ _ l,⟨fun b cs h=>by simp at h,fun b cs h=>by simp at h⟩,⟨hB.os,hB.tape,hB.output,hB.size,fun g n hg hl=>⟨by rw[if_pos hg];exact hl,hB.block g hg⟩,⟨hB.size,fun g o x hg _ hx=> ?_,fun g n hg hf=>by rw[if_pos hg];exact hf⟩⟩,fun _ _=>rfl⟩;rw[World.cell?_of_block (w:=w) (a:=⟨g,o,none⟩) (hB.block g hg)];exact hx
theorem tD {vals:Array Value} (h:vals.size=1):vals= #[vals[0]]:=by
 apply Array.ext
 ·simp[h]
 ·intro i h1 h2
  match i,h2 with
  |0,_=>rfl
theorem BR (s:ByteArray) (hz:s.size<=9223372036854775807):cd Tryz.prog 151 [vS s] [] (vB (dr s)) []:=by
 refine rz _ Tryz.func151 (by kernel_rfl) (by kernel_rfl) rfl rfl fun w κ ρ vals hs hr=>⟨_,MP,?_⟩
 have hs:vals.size=1:=hs;have h0:=(eX.1 (hr 0 (by simp) (by omega) (.slot 0))).1;rw[tD hs,show vals[0]= .string s from h0];refine (BP s w hz).mono ?_;rintro e w' ⟨he,rfl⟩;exact ⟨he,Below.refl _ _⟩
theorem mo (l:List ByteArray) (i:Nat) (hi:i<l.length) (hl:l.length<=1000) (hs:yp l):cd Tryz.prog 101 [.c (ed l),.c (xI i)] [] (vI (bG (l.take i) (l.getD i ⟨#[]⟩))) []:=by
 have hz:(l.getD (i:Int).toNat ⟨#[]⟩).size<=9223372036854775807:=by
  rw[Int.toNat_natCast,List.getD_eq_getElem?_getD,List.getElem?_eq_getElem hi];exact hs _ (List.getElem_mem hi)
 have hN:=BR (l.getD (i:Int).toNat ⟨#[]⟩) hz;unfold bG;by_cases hb:dr (l.getD i ⟨#[]⟩)=true
 ·rw[show dr (l.getD (i:Int).toNat ⟨#[]⟩)=true from hb] at hN
  rw[if_neg (by rw[hb];decide)];refine PQ Tryz.func101 ?_;simp only[cu,Nat.zero_add,Nat.reduceAdd]
  repeat' (first|with_reducible (first|refine ab ?_ ?_|exact True.intro|refine DQ ?_|fail)|((with_reducible apply aC);refine an (hN) rfl ?_)|with_reducible (first|refine ay ?_|refine aD ?_)|((with_reducible apply av);refine aq rfl ?_ ?_;all_goals (intro hbq;(try simp only[bq] at hbq);(try (exfalso;omega))))|refine RQ ?_|((with_reducible apply aL);exact fun _=>⟨rfl,rfl⟩)|omega)
  refine aH (fun k:Nat=>SS [sC 0 (ed l),sI 1 i,sI 5 k] []) (fun k=>k<=i/\lg (l.getD i ⟨#[]⟩) (l.take k)=false) (fun k=>i-k) 0 ?_ ⟨by omega,rfl⟩ ?_
  ·
   refine WQ ?_ ?_<;>repeat' (first|with_reducible (first|refine KQ ?_|refine ab ?_ ?_|exact True.intro)|refine ax rfl ?_ ?_|exact aE.ah|exact aE.ao|exact aE.al|refine aN.cells ?_ ?_|refine aN.bF ?_ ?_|refine cg.cons ?_ ?_|exact (rfl:known _=_)|exact (rfl:aF _=true)|with_reducible rfl|omega)
  intro k hk;obtain ⟨hk,hno⟩:=hk;by_cases hki:k<i
  ·have hsn:=JO (l.getD i ⟨#[]⟩) l (k:=k) (by omega)
   have hw:=SJ (l.getD (k:Int).toNat ⟨#[]⟩) (l.getD (i:Int).toNat ⟨#[]⟩);cases he:Go.Proofs.YtjkeeocnekggfaaGreat.Ad (l.getD i ⟨#[]⟩) (l.getD k ⟨#[]⟩) with
   |true=>
    rw[show Go.Proofs.YtjkeeocnekggfaaGreat.Ad (l.getD (i:Int).toNat ⟨#[]⟩) (l.getD (k:Int).toNat ⟨#[]⟩)=true from he] at hw;rw[if_pos (JP _ l hki (by omega) he)]
    repeat' (first|with_reducible (first|refine ab ?_ ?_|exact True.intro|refine DQ ?_|fail)|((with_reducible apply av);refine aq rfl ?_ ?_;all_goals (intro hbq;(try simp only[bq,and_true,true_and,and_false,false_and,or_true,true_or,or_false,false_or,not_true_eq_false,not_false_eq_true,Bool.true_eq_false,Bool.false_eq_true,hw] at hbq);(try (exfalso;omega))))|with_reducible (first|refine ay ?_|refine aD ?_)|refine RQ ?_|((with_reducible apply aL);exact fun _=>⟨rfl,rfl⟩)|((with_reducible apply bh);kernel_rfl)|omega)
    all_goals rfl
   |false=>
    rw[show Go.Proofs.YtjkeeocnekggfaaGreat.Ad (l.getD (i:Int).toNat ⟨#[]⟩) (l.getD (k:Int).toNat ⟨#[]⟩)=false from he] at hw;rw[hno,he] at hsn
    repeat' (first|with_reducible (first|refine ab ?_ ?_|exact True.intro|refine DQ ?_|fail)|((with_reducible apply av);refine aq rfl ?_ ?_;all_goals (intro hbq;(try simp only[bq,and_true,true_and,and_false,false_and,or_true,true_or,or_false,false_or,not_true_eq_false,not_false_eq_true,Bool.true_eq_false,Bool.false_eq_true,hw] at hbq);(try (exfalso;omega))))|with_reducible (first|refine ay ?_|refine aD ?_)|refine RQ ?_|((with_reducible apply aL);exact fun _=>⟨rfl,rfl⟩)|((with_reducible apply bh);kernel_rfl)|omega)
    ·
     refine az (k+1) ?_ (⟨by omega,hsn⟩) (by (try dsimp only);omega);refine WQ ?_ ?_<;>repeat' (first|with_reducible (first|refine KQ ?_|refine ab ?_ ?_|exact True.intro)|refine ax rfl ?_ ?_|exact aE.ah|exact aE.ao|exact aE.al|refine aN.cells ?_ ?_|refine aN.bF ?_ ?_|refine cg.cons ?_ ?_|exact (rfl:known _=_)|exact (rfl:aF _=true)|with_reducible rfl|omega)
  ·have hki:k=i:=by omega
   subst hki;rw[if_neg (by rw[hno];decide)]
   repeat' (first|with_reducible (first|refine ab ?_ ?_|exact True.intro|refine DQ ?_|fail)|with_reducible (refine ay ?_)|((with_reducible apply av);refine aq rfl ?_ ?_;all_goals (intro hbq;(try simp only[bq] at hbq);(try (exfalso;omega))))|refine RQ ?_|fail)
   all_goals rfl
 ·have hb:dr (l.getD i ⟨#[]⟩)=false:=by simpa using hb
  rw[show dr (l.getD (i:Int).toNat ⟨#[]⟩)=false from hb] at hN;rw[if_pos hb];refine PQ Tryz.func101 ?_;simp only[cu,Nat.zero_add,Nat.reduceAdd]
  repeat' (first|with_reducible (first|exact VQ|refine ab ?_ ?_|exact True.intro|refine DQ ?_|fail)|((with_reducible apply aC);refine an (hN) rfl ?_)|with_reducible (refine ay ?_)|((with_reducible apply av);refine aq rfl ?_ ?_;all_goals (intro hbq;(try simp only[bq] at hbq);(try (exfalso;omega))))|refine RQ ?_|omega)
  all_goals rfl
theorem Ff (k:dF) (a e:Int):cd Tryz.prog 152 [.agg (tb k),.agg [xI a,xI e]] [] (vB (eU k (a,e))) []:=by
 unfold eU tb;refine PQ Tryz.func152 ?_;simp only[cu,Nat.zero_add,Nat.reduceAdd]
 repeat' (first|with_reducible (first|refine ab ?_ ?_|exact True.intro|refine DQ ?_|assumption)|with_reducible (refine ay ?_)|refine RQ ?_|(intro (hgq:(_:Bool)=true);(try simp only[bq] at hgq))|(intro (hgq:(_:Bool)=false);(try simp only[bq] at hgq))|((with_reducible apply cH);simp only[bq])|(simp only[hgq,bq];done))
 ·refine mB.c (il.bool ?_)
  simp only[Bool.decide_or,Bool.decide_and]
theorem fc (n lo hi:Int):cd Tryz.prog 103 [.c (xI n),.c (xI lo),.c (xI hi)] [] (vB (decide (lo<=n)&&decide (n<=hi))) []:=by
 refine FQ Tryz.func103 ?_;simp only[cu,Nat.zero_add,Nat.reduceAdd]
 repeat' (first|with_reducible (first|refine ab ?_ ?_|exact True.intro|exact bu.nil _|refine DQ ?_|assumption)|with_reducible (refine ay ?_)|refine RQ ?_|(intro (hgq:(_:Bool)=true);(try simp only[bq] at hgq))|((with_reducible apply cH);simp only[bq]))
 repeat' (first|with_reducible (first|refine KQ ?_|exact True.intro)|refine mB.c ?_)
theorem uk (l:List dF) (x:Int×Int) {j:Nat} (h:j<l.length):qK (l.take (j+1)) x=qK (l.take j) x++(if eU (l.getD j a9) x=true then [l.getD j a9] else []):=by
 unfold qK;rw[List.take_succ_eq_append_getElem h,List.filter_append,List.getD_eq_getElem?_getD,List.getElem?_eq_getElem h];simp only[Option.getD_some,List.filter_cons,List.filter_nil]
def xm (l:List dF):dF:=l.getLast?.getD a9
theorem Dv (l:List dF) (k:dF):xm (l++[k])=k:=by unfold xm;simp
theorem O9 (k:dF) (hk: -1<=k.pt) (l:List dF):pX k l=(decide ((l.length:Int)=0)||(decide ((l.length:Int)=1)&&decide (0<=k.pt)&&decide ((xm l).pt=k.pt)&& !decide ((xm l).ps=k.ps))):=by
 match l with
 |[]=>rfl
 |[j]=>
  have hj:xm [j]=j:=rfl;rw[hj];unfold pX;rw[Bool.eq_iff_iff];simp only[decide_eq_true_eq,Bool.or_eq_true,Bool.and_eq_true,Bool.not_eq_true',decide_eq_false_iff_not,List.length_singleton];constructor<;>intro h<;>omega
 |a::b::l=>
  simp only[pX,List.length_cons];rw[decide_eq_false (by omega),decide_eq_false (by omega)];rfl
theorem Jt (L:bJ) (i:Nat) (hi:i<L.lnks.length) (hl:L.lnks.length<=1000) (a e:Int) (hp: -1<=(L.lnks.getD i a9).pt):cd Tryz.prog 153 [bK L,.c (xI i),.agg [xI a,xI e]] [] (vB (pX (L.lnks.getD i a9) (qK (L.lnks.take i) (a,e)))) []:=by
 have hH:=fun k=>Ff k a e
 rw[O9 _ hp];unfold tb at hH;unfold bK;refine PQ Tryz.func153 ?_;simp only[cu,Nat.zero_add,Nat.reduceAdd]
 repeat' (first|with_reducible (first|refine ab ?_ ?_|exact True.intro|refine DQ ?_|fail)|with_reducible (first|refine ay ?_|refine aD ?_)|refine RQ ?_|((with_reducible apply aL);exact fun _=>⟨rfl,rfl⟩)|omega)
 refine aH (fun j:Nat=>SS [sI 1 i,sC 3 (pB 0),sC 5 (pB 1),sC 7 (pB 2),sI 8 ((qK (L.lnks.take j) (a,e)).length:Nat),sC 9 (pB 3),sI 10 j] [some (.cells [ed L.sts,ed L.pts,mJ L.secs,kC L.lnks]),some (.cells [xI a,xI e]),some (.cells (tb (L.lnks.getD (i:Int).toNat a9))),some (.cells (tb (xm (qK (L.lnks.take j) (a,e)))))]) (fun j=>j<=i) (fun j=>i-j) 0 ?_ (by omega) ?_
 ·
  refine WQ ?_ ?_<;>repeat' (first|with_reducible (first|refine KQ ?_|refine ab ?_ ?_|exact True.intro)|refine ax rfl ?_ ?_|exact aE.ah|exact aE.ao|exact aE.al|refine aN.cells ?_ ?_|refine aN.bF ?_ ?_|refine cg.cons ?_ ?_|exact (rfl:known _=_)|exact (rfl:aF _=true)|with_reducible rfl|omega)
  all_goals rfl
 intro j hj;have hal:(qK (L.lnks.take j) (a,e)).length<=1000:=by
  unfold qK;refine Nat.le_trans (List.length_filter_le _ _) ?_;rw[List.length_take];omega
 by_cases hji:j<i
 ·have hsn:=uk L.lnks (a,e) (j:=j) (by omega)
  have hC:=hH (L.lnks.getD (j:Int).toNat a9);cases hb:eU (L.lnks.getD j a9) (a,e) with
  |true=>
   rw[show eU (L.lnks.getD (j:Int).toNat a9) (a,e)=true from hb] at hC;rw[if_pos hb] at hsn
   repeat' (first|with_reducible (first|refine ab ?_ ?_|exact True.intro|refine DQ ?_|fail)|((with_reducible apply aC);refine an (hC) rfl ?_)|with_reducible (first|refine ay ?_|refine aD ?_)|((with_reducible apply av);refine aq rfl ?_ ?_;all_goals (intro hbq;(try simp only[bq] at hbq);(try (exfalso;omega))))|refine RQ ?_|((with_reducible apply aL);exact fun _=>⟨rfl,rfl⟩)|((with_reducible apply bh);kernel_rfl)|omega)
   ·
    refine az (j+1) ?_ ((by omega)) (by (try dsimp only);omega);refine WQ ?_ ?_<;>repeat' (first|with_reducible (first|refine KQ ?_|refine ab ?_ ?_|exact True.intro)|refine ax rfl ?_ ?_|exact aE.ah|exact aE.ao|exact aE.al|refine aN.cells ?_ ?_|refine aN.bF ?_ ?_|refine cg.cons ?_ ?_|exact (rfl:known _=_)|exact (rfl:aF _=true)|with_reducible rfl|omega)
    all_goals (rw[hsn];first|(simp;done)|(rw[Dv];rfl))
  |false=>
   rw[show eU (L.lnks.getD (j:Int).toNat a9) (a,e)=false from hb] at hC;rw[if_neg (by rw[hb];decide),List.append_nil] at hsn
   repeat' (first|with_reducible (first|refine ab ?_ ?_|exact True.intro|refine DQ ?_|fail)|((with_reducible apply aC);refine an (hC) rfl ?_)|with_reducible (first|refine ay ?_|refine aD ?_)|((with_reducible apply av);refine aq rfl ?_ ?_;all_goals (intro hbq;(try simp only[bq] at hbq);(try (exfalso;omega))))|refine RQ ?_|((with_reducible apply aL);exact fun _=>⟨rfl,rfl⟩)|((with_reducible apply bh);kernel_rfl)|omega)
   ·
    refine az (j+1) ?_ ((by omega)) (by (try dsimp only);omega);refine WQ ?_ ?_<;>repeat' (first|with_reducible (first|refine KQ ?_|refine ab ?_ ?_|exact True.intro)|refine ax rfl ?_ ?_|exact aE.ah|exact aE.ao|exact aE.al|refine aN.cells ?_ ?_|refine aN.bF ?_ ?_|refine cg.cons ?_ ?_|exact (rfl:known _=_)|exact (rfl:aF _=true)|with_reducible rfl|omega)
    all_goals (rw[hsn];try rfl)
 ·have hje:j=i:=by omega
  subst hje
  repeat' (first|with_reducible (first|refine ab ?_ ?_|exact True.intro|refine DQ ?_|assumption)|with_reducible (refine ay ?_)|((with_reducible apply av);refine aq rfl ?_ ?_;all_goals (intro hbq;(try simp only[bq] at hbq);(try (exfalso;omega))))|refine RQ ?_|(intro (hgq:(_:Bool)=true);(try simp only[bq] at hgq))|(intro (hgq:(_:Bool)=false);(try simp only[bq] at hgq))|((with_reducible apply cH);simp only[bq])|(simp only[hgq,bq];done)|omega)
  ·refine mB.c (il.bool ?_)
   rfl
theorem BO (L:bJ) (i:Nat) (hi:i<L.lnks.length) (hl:L.lnks.length<=1000) (h2:L.pts.length<=1000) (h3:L.secs.length<=1000):cd Tryz.prog 104 [bK L,.c (xI i)] [] (vI (cN L.secs.length L.pts.length (L.lnks.take i) (L.lnks.getD i a9))) []:=by
 have hH:=fun k a e=>Ff k a e
 have f1:=fun a e hp=>Jt L i hi hl a e hp
 have c1:=fc (L.lnks.getD (i:Int).toNat a9).a 0 ((L.secs.length:Int)-1);have c2:=fc (L.lnks.getD (i:Int).toNat a9).b 0 ((L.secs.length:Int)-1);have c3:=fc (L.lnks.getD (i:Int).toNat a9).ae 0 1;have c4:=fc (L.lnks.getD (i:Int).toNat a9).be 0 1;have c5:=fc (L.lnks.getD (i:Int).toNat a9).pt (-1) ((L.pts.length:Int)-1);have c6:=fc (L.lnks.getD (i:Int).toNat a9).ps 0 1;unfold tb at hH
 generalize hK:L.lnks.getD i a9=K at*;have hKi:L.lnks.getD (i:Int).toNat a9=K:=hK;by_cases hB:gv L.secs.length L.pts.length K=true
 ·have hb:=gQ hB
  have g1:=f1 K.a K.ae hb.2.2.2.2.2.2.2.2.1;have g2:=f1 K.b K.be hb.2.2.2.2.2.2.2.2.1;clear f1;rw[← hKi] at hb
  unfold cN;rw[if_neg (by rw[hB];decide)];by_cases hab:K.a=K.b/\K.ae=K.be
  ·rw[if_pos (by rw[hab.1,hab.2])]
   rw[← hKi] at hab;unfold bK;refine PQ Tryz.func104 ?_;simp only[cu,Nat.zero_add,Nat.reduceAdd]
   repeat' (first|with_reducible (first|exact VQ|refine ab ?_ ?_|exact True.intro|refine DQ ?_|assumption)|((with_reducible apply aC);refine an (c1) rfl ?_)|((with_reducible apply aZ);refine aX ((fun _=>c2)) rfl ?_ ?_)|((with_reducible apply aZ);refine aX ((fun _=>c3)) rfl ?_ ?_)|((with_reducible apply aZ);refine aX ((fun _=>c4)) rfl ?_ ?_)|((with_reducible apply aZ);refine aX ((fun _=>c5)) rfl ?_ ?_)|((with_reducible apply aZ);refine aX ((fun _=>c6)) rfl ?_ ?_)|((with_reducible apply Rn);refine Ao [0,1,2,3,4,5,6,7,8,9] 10 11 [12,13] 2 (by kernel_rfl) rfl rfl rfl rfl ?_)|((with_reducible apply Kc);kernel_rfl)|((with_reducible apply Ka);exact Af rfl)|((with_reducible apply Kb);refine Ah rfl ?_)|with_reducible (refine ay ?_)|((with_reducible apply av);refine aq rfl ?_ ?_;all_goals (intro hbq;(try simp only[bq] at hbq);(try (exfalso;omega))))|refine RQ ?_|(intro (hgq:(_:Bool)=true);(try simp only[bq] at hgq))|(intro (hgq:(_:Bool)=false);(try simp only[bq] at hgq))|((with_reducible apply cH);simp only[bq])|(simp only[hgq,bq];done)|omega)
   all_goals rfl
  ·rw[if_neg (fun e=>hab (by injection e with e1 e2;exact ⟨e1,e2⟩))]
   rw[← hKi] at hab;unfold bK at g1 g2⊢;refine PQ Tryz.func104 ?_;simp only[cu,Nat.zero_add,Nat.reduceAdd]
   repeat' (first|with_reducible (first|refine ab ?_ ?_|exact True.intro|refine DQ ?_|assumption)|((with_reducible apply aC);refine an (c1) rfl ?_)|((with_reducible apply aZ);refine aX ((fun _=>c2)) rfl ?_ ?_)|((with_reducible apply aZ);refine aX ((fun _=>c3)) rfl ?_ ?_)|((with_reducible apply aZ);refine aX ((fun _=>c4)) rfl ?_ ?_)|((with_reducible apply aZ);refine aX ((fun _=>c5)) rfl ?_ ?_)|((with_reducible apply aZ);refine aX ((fun _=>c6)) rfl ?_ ?_)|((with_reducible apply Rn);refine Ao [0,1,2,3,4,5,6,7,8,9] 10 11 [12,13] 2 (by kernel_rfl) rfl rfl rfl rfl ?_)|((with_reducible apply Kc);kernel_rfl)|((with_reducible apply Ka);exact Af rfl)|((with_reducible apply Kb);refine Ah rfl ?_)|with_reducible (first|refine ay ?_|refine aD ?_)|((with_reducible apply av);refine aq rfl ?_ ?_;all_goals (intro hbq;(try simp only[bq] at hbq);(try (exfalso;omega))))|refine RQ ?_|(intro (hgq:(_:Bool)=true);(try simp only[bq] at hgq))|(intro (hgq:(_:Bool)=false);(try simp only[bq] at hgq))|((with_reducible apply aL);exact fun _=>⟨rfl,rfl⟩)|((with_reducible apply cH);simp only[bq])|(simp only[hgq,bq];done)|omega)
   clear c1 c2 c3 c4 c5 c6
   all_goals (
    refine aH (fun j:Nat=>SS [sI 1 i,sC 2 (pB 0),sC 5 (pB 1),sC 7 (pB 2),sC 8 (pB 3),sI 9 j] [some (.cells [ed L.sts,ed L.pts,mJ L.secs,kC L.lnks]),none,some (.cells [xI (L.lnks.getD (i:Int).toNat a9).a,xI (L.lnks.getD (i:Int).toNat a9).ae]),some (.cells [xI (L.lnks.getD (i:Int).toNat a9).b,xI (L.lnks.getD (i:Int).toNat a9).be])]) (fun j=>j<=i/\(L.lnks.take j).any (fun k=>eU k ((L.lnks.getD (i:Int).toNat a9).a,(L.lnks.getD (i:Int).toNat a9).ae)&&eU k ((L.lnks.getD (i:Int).toNat a9).b,(L.lnks.getD (i:Int).toNat a9).be))=false) (fun j=>i-j) 0 ?_ ⟨by omega,rfl⟩ ?_
    ·
     refine WQ ?_ ?_<;>repeat' (first|with_reducible (first|refine KQ ?_|refine ab ?_ ?_|exact True.intro)|refine ax rfl ?_ ?_|exact aE.ah|exact aE.ao|exact aE.al|refine aN.cells ?_ ?_|refine aN.bF ?_ ?_|refine cg.cons ?_ ?_|exact (rfl:known _=_)|exact (rfl:aF _=true)|with_reducible rfl|omega)
     all_goals rfl
    intro j hj;obtain ⟨hj,hno⟩:=hj;by_cases hji:j<i
    ·have hC:=hH (L.lnks.getD (j:Int).toNat a9) (L.lnks.getD (i:Int).toNat a9).a (L.lnks.getD (i:Int).toNat a9).ae
     have hD:=hH (L.lnks.getD (j:Int).toNat a9) (L.lnks.getD (i:Int).toNat a9).b (L.lnks.getD (i:Int).toNat a9).be;have hsn:(L.lnks.take (j+1)).any (fun k=>eU k ((L.lnks.getD (i:Int).toNat a9).a,(L.lnks.getD (i:Int).toNat a9).ae)&&eU k ((L.lnks.getD (i:Int).toNat a9).b,(L.lnks.getD (i:Int).toNat a9).be))=((L.lnks.take j).any (fun k=>eU k ((L.lnks.getD (i:Int).toNat a9).a,(L.lnks.getD (i:Int).toNat a9).ae)&&eU k ((L.lnks.getD (i:Int).toNat a9).b,(L.lnks.getD (i:Int).toNat a9).be))||(eU (L.lnks.getD (j:Int).toNat a9) ((L.lnks.getD (i:Int).toNat a9).a,(L.lnks.getD (i:Int).toNat a9).ae)&&eU (L.lnks.getD (j:Int).toNat a9) ((L.lnks.getD (i:Int).toNat a9).b,(L.lnks.getD (i:Int).toNat a9).be))):=by
      rw[List.take_succ_eq_append_getElem (show j<L.lnks.length by omega),List.any_append,List.any_cons,List.any_nil,Bool.or_false,Int.toNat_natCast j,List.getD_eq_getElem?_getD (l:=L.lnks) (i:=j),List.getElem?_eq_getElem (show j<L.lnks.length by omega)];rfl
     cases hc1:eU (L.lnks.getD (j:Int).toNat a9) ((L.lnks.getD (i:Int).toNat a9).a,(L.lnks.getD (i:Int).toNat a9).ae) with
     |true=>
      cases hc2:eU (L.lnks.getD (j:Int).toNat a9) ((L.lnks.getD (i:Int).toNat a9).b,(L.lnks.getD (i:Int).toNat a9).be) with
      |true=>
       have hany:(L.lnks.take i).any (fun k=>eU k (K.a,K.ae)&&eU k (K.b,K.be))=true:=by
        rw[hKi] at hc1 hc2;refine List.any_eq_true.2 ⟨L.lnks.getD j a9,?_,by rw[Bool.and_eq_true];exact ⟨hc1,hc2⟩⟩;rw[List.getD_eq_getElem?_getD,List.getElem?_eq_getElem (show j<L.lnks.length by omega)];exact List.mem_iff_getElem.2 ⟨j,by rw[List.length_take];omega,List.getElem_take ..⟩
       rw[if_pos hany];rw[hc1] at hC;rw[hc2] at hD
       repeat' (first|with_reducible (first|refine ab ?_ ?_|exact True.intro|refine DQ ?_|fail)|((with_reducible apply aC);refine an (hC) rfl ?_)|((with_reducible apply aZ);refine aX ((fun _=>hD)) rfl ?_ ?_)|with_reducible (first|refine ay ?_|refine aD ?_)|((with_reducible apply av);refine aq rfl ?_ ?_;all_goals (intro hbq;(try simp only[bq] at hbq);(try (exfalso;omega))))|refine RQ ?_|(intro (hgq:(_:Bool)=true);(try simp only[bq] at hgq))|((with_reducible apply aL);exact fun _=>⟨rfl,rfl⟩)|((with_reducible apply bh);kernel_rfl)|((with_reducible apply cH);simp only[bq])|omega)
       all_goals rfl
      |false=>
       rw[hc1,hc2,hno] at hsn;rw[hc1] at hC;rw[hc2] at hD
       repeat' (first|with_reducible (first|refine ab ?_ ?_|exact True.intro|refine DQ ?_|fail)|((with_reducible apply aC);refine an (hC) rfl ?_)|((with_reducible apply aZ);refine aX ((fun _=>hD)) rfl ?_ ?_)|with_reducible (first|refine ay ?_|refine aD ?_)|((with_reducible apply av);refine aq rfl ?_ ?_;all_goals (intro hbq;(try simp only[bq] at hbq);(try (exfalso;omega))))|refine RQ ?_|(intro (hgq:(_:Bool)=true);(try simp only[bq] at hgq))|((with_reducible apply aL);exact fun _=>⟨rfl,rfl⟩)|((with_reducible apply bh);kernel_rfl)|((with_reducible apply cH);simp only[bq])|omega)
       ·
        refine az (j+1) ?_ (⟨by omega,hsn⟩) (by (try dsimp only);omega);refine WQ ?_ ?_<;>repeat' (first|with_reducible (first|refine KQ ?_|refine ab ?_ ?_|exact True.intro)|refine ax rfl ?_ ?_|exact aE.ah|exact aE.ao|exact aE.al|refine aN.cells ?_ ?_|refine aN.bF ?_ ?_|refine cg.cons ?_ ?_|exact (rfl:known _=_)|exact (rfl:aF _=true)|with_reducible rfl|omega)
     |false=>
      rw[hc1,hno,Bool.false_and] at hsn;rw[hc1] at hC
      repeat' (first|with_reducible (first|refine ab ?_ ?_|exact True.intro|refine DQ ?_|fail)|((with_reducible apply aC);refine an (hC) rfl ?_)|((with_reducible apply aZ);refine aX ((fun _=>hD)) rfl ?_ ?_)|with_reducible (first|refine ay ?_|refine aD ?_)|((with_reducible apply av);refine aq rfl ?_ ?_;all_goals (intro hbq;(try simp only[bq] at hbq);(try (exfalso;omega))))|refine RQ ?_|(intro (hgq:(_:Bool)=true);(try simp only[bq] at hgq))|((with_reducible apply aL);exact fun _=>⟨rfl,rfl⟩)|((with_reducible apply bh);kernel_rfl)|omega)
      ·
       refine az (j+1) ?_ (⟨by omega,hsn⟩) (by (try dsimp only);omega);refine WQ ?_ ?_<;>repeat' (first|with_reducible (first|refine KQ ?_|refine ab ?_ ?_|exact True.intro)|refine ax rfl ?_ ?_|exact aE.ah|exact aE.ao|exact aE.al|refine aN.cells ?_ ?_|refine aN.bF ?_ ?_|refine cg.cons ?_ ?_|exact (rfl:known _=_)|exact (rfl:aF _=true)|with_reducible rfl|omega)
    ·have hje:i=j:=by omega
     subst hje;rw[hKi] at hno;rw[if_neg (by rw[hno];decide)];rw[← hKi] at g1 g2;generalize hq1:pX (L.lnks.getD (i:Int).toNat a9) (qK (L.lnks.take i) ((L.lnks.getD (i:Int).toNat a9).a,(L.lnks.getD (i:Int).toNat a9).ae))=q1 at g1;generalize hq2:pX (L.lnks.getD (i:Int).toNat a9) (qK (L.lnks.take i) ((L.lnks.getD (i:Int).toNat a9).b,(L.lnks.getD (i:Int).toNat a9).be))=q2 at g2;rw[hKi] at hq1 hq2;rw[hq1,hq2];cases q1 with
     |false=>
      rw[if_pos (.inl rfl)]
      repeat' (first|with_reducible (first|refine ab ?_ ?_|exact True.intro|refine DQ ?_|fail)|((with_reducible apply aC);refine an (g1) rfl ?_)|((with_reducible apply aZ);refine aX ((fun _=>g2)) rfl ?_ ?_)|with_reducible (refine ay ?_)|((with_reducible apply av);refine aq rfl ?_ ?_;all_goals (intro hbq;(try simp only[bq] at hbq);(try (exfalso;omega))))|refine RQ ?_|(intro (hgq:(_:Bool)=true);(try simp only[bq] at hgq))|(intro (hgq:(_:Bool)=false);(try simp only[bq] at hgq)))
      all_goals rfl
     |true=>
      cases q2 with
      |false=>
       rw[if_pos (.inr rfl)]
       repeat' (first|with_reducible (first|refine ab ?_ ?_|exact True.intro|refine DQ ?_|fail)|((with_reducible apply aC);refine an (g1) rfl ?_)|((with_reducible apply aZ);refine aX ((fun _=>g2)) rfl ?_ ?_)|with_reducible (refine ay ?_)|((with_reducible apply av);refine aq rfl ?_ ?_;all_goals (intro hbq;(try simp only[bq] at hbq);(try (exfalso;omega))))|refine RQ ?_|(intro (hgq:(_:Bool)=true);(try simp only[bq] at hgq))|(intro (hgq:(_:Bool)=false);(try simp only[bq] at hgq))|((with_reducible apply cH);simp only[bq]))
       all_goals rfl
      |true=>
       rw[if_neg (by simp)]
       repeat' (first|with_reducible (first|refine ab ?_ ?_|exact True.intro|refine DQ ?_|fail)|((with_reducible apply aC);refine an (g1) rfl ?_)|((with_reducible apply aZ);refine aX ((fun _=>g2)) rfl ?_ ?_)|with_reducible (refine ay ?_)|((with_reducible apply av);refine aq rfl ?_ ?_;all_goals (intro hbq;(try simp only[bq] at hbq);(try (exfalso;omega))))|refine RQ ?_|(intro (hgq:(_:Bool)=true);(try simp only[bq] at hgq))|(intro (hgq:(_:Bool)=false);(try simp only[bq] at hgq))|((with_reducible apply cH);simp only[bq]))
       all_goals rfl
    )
 ·have hB:gv L.secs.length L.pts.length K=false:=by simpa using hB
  unfold cN;rw[if_pos hB];unfold gv at hB;rw[decide_eq_false_iff_not,← hKi] at hB;unfold bK;refine PQ Tryz.func104 ?_;simp only[cu,Nat.zero_add,Nat.reduceAdd]
  repeat' (first|with_reducible (first|exact VQ|refine ab ?_ ?_|exact True.intro|refine DQ ?_|assumption)|((with_reducible apply aC);refine an (c1) rfl ?_)|((with_reducible apply aZ);refine aX ((fun _=>c2)) rfl ?_ ?_)|((with_reducible apply aZ);refine aX ((fun _=>c3)) rfl ?_ ?_)|((with_reducible apply aZ);refine aX ((fun _=>c4)) rfl ?_ ?_)|((with_reducible apply aZ);refine aX ((fun _=>c5)) rfl ?_ ?_)|((with_reducible apply aZ);refine aX ((fun _=>c6)) rfl ?_ ?_)|with_reducible (refine ay ?_)|((with_reducible apply av);refine aq rfl ?_ ?_;all_goals (intro hbq;(try simp only[bq] at hbq);(try (exfalso;omega))))|refine RQ ?_|(intro (hgq:(_:Bool)=true);(try simp only[bq] at hgq))|(intro (hgq:(_:Bool)=false);(try simp only[bq] at hgq))|((with_reducible apply cH);simp only[bq])|(simp only[hgq,bq];done)|omega)
  all_goals rfl
theorem jE {α:Type} {l:List α} {i:Nat} (d:α) (h:i<l.length):l.drop i=l.getD i d::l.drop (i+1):=by
 rw[List.drop_eq_getElem_cons h,List.getD_eq_getElem?_getD,List.getElem?_eq_getElem h];rfl
theorem qE {α:Type} {l:List α} {i:Nat} (d:α) (h:i<l.length):l.take (i+1)=l.take i++[l.getD i d]:=by
 rw[List.take_succ_eq_append_getElem h,List.getD_eq_getElem?_getD,List.getElem?_eq_getElem h];rfl
theorem Fv {l:List ByteArray} {i:Nat} (h:i<l.length) (h0:bG (l.take i) (l.getD i ⟨#[]⟩)=0):aW (l.take i) (l.drop i)=aW (l.take (i+1)) (l.drop (i+1)):=by
 rw[jE ⟨#[]⟩ h,aW,if_pos h0,qE ⟨#[]⟩ h]
theorem Fw {l:List ByteArray} {i:Nat} (h:i<l.length) (h0: ¬ bG (l.take i) (l.getD i ⟨#[]⟩)=0):aW (l.take i) (l.drop i)=bG (l.take i) (l.getD i ⟨#[]⟩):=by
 rw[jE ⟨#[]⟩ h,aW,if_neg h0]
theorem Ms {a b:Nat} {l:List dF} {i:Nat} (h:i<l.length) (h0:cN a b (l.take i) (l.getD i a9)=0):bm a b (l.take i) (l.drop i)=bm a b (l.take (i+1)) (l.drop (i+1)):=by
 rw[jE a9 h,bm,if_pos h0,qE a9 h]
theorem Mt {a b:Nat} {l:List dF} {i:Nat} (h:i<l.length) (h0: ¬ cN a b (l.take i) (l.getD i a9)=0):bm a b (l.take i) (l.drop i)=cN a b (l.take i) (l.getD i a9):=by
 rw[jE a9 h,bm,if_neg h0]
theorem zn {l:List eP} {i:Nat} (h:i<l.length):(l.map eP.nm).getD i ⟨#[]⟩=(l.getD i cD).nm:=by
 simp[List.getD_eq_getElem?_getD,List.getElem?_map,List.getElem?_eq_getElem h]
theorem PL {n:Nat} {l:List eP} {i:Nat} (h:i<l.length) (h0:bG ((l.map eP.nm).take i) ((l.map eP.nm).getD i ⟨#[]⟩)=0) (h1:kD n (l.getD i cD)=true):cx n ((l.map eP.nm).take i) (l.drop i)=cx n ((l.map eP.nm).take (i+1)) (l.drop (i+1)):=by
 rw[zn h] at h0;rw[jE cD h,cx,if_pos h0,if_pos h1,qE ⟨#[]⟩ (by rw[List.length_map];exact h),zn h]
theorem PM {n:Nat} {l:List eP} {i:Nat} (h:i<l.length) (h0: ¬ bG ((l.map eP.nm).take i) ((l.map eP.nm).getD i ⟨#[]⟩)=0):cx n ((l.map eP.nm).take i) (l.drop i)=bG ((l.map eP.nm).take i) ((l.map eP.nm).getD i ⟨#[]⟩):=by
 rw[zn h] at h0⊢;rw[jE cD h,cx,if_neg h0]
theorem PN {n:Nat} {l:List eP} {i:Nat} (h:i<l.length) (h0:bG ((l.map eP.nm).take i) ((l.map eP.nm).getD i ⟨#[]⟩)=0) (h1: ¬ kD n (l.getD i cD)=true):cx n ((l.map eP.nm).take i) (l.drop i)=4:=by
 rw[zn h] at h0;rw[jE cD h,cx,if_pos h0,if_neg h1]
theorem zy (b:Int):ep 0 b=b:=rfl
theorem zx {a:Int} (h: ¬ a=0) (b:Int):ep a b=a:=if_neg h
theorem sK (L:bJ) (h:L.secs.length<=1000):cd Tryz.prog 102 [bK L] [] (.c (ed (L.secs.map eP.nm))) []:=by
 unfold bK;refine FQ Tryz.func102 ?_;simp only[cu,Nat.zero_add,Nat.reduceAdd]
 repeat' (first|with_reducible (first|refine ab ?_ ?_|exact True.intro)|refine RQ ?_|fail)
 refine aH (fun i:Nat=>SS [sC 1 (pB 0),sC 3 (P3 ((L.secs.take i).map eP.nm)),sI 4 i] [some (.cells [ed L.sts,ed L.pts,mJ L.secs,kC L.lnks])]) (fun i=>i<=L.secs.length) (fun i=>L.secs.length-i) 0 ?_ (by omega) ?_
 ·
  refine WQ ?_ ?_<;>repeat' (first|with_reducible (first|refine KQ ?_|refine ab ?_ ?_|exact True.intro)|refine ax rfl ?_ ?_|exact aE.ah|exact aE.ao|exact aE.al|refine aN.cells ?_ ?_|refine aN.bF ?_ ?_|refine cg.cons ?_ ?_|exact (rfl:known _=_)|exact (rfl:aF _=true)|with_reducible rfl|omega)
 intro i hi;have hl:((L.secs.take i).map eP.nm).length=min i L.secs.length:=by simp
 have hsn:i<L.secs.length->(L.secs.take (i+1)).map eP.nm=(L.secs.take i).map eP.nm++[(L.secs.getD i cD).nm]:=fun h=>by
  rw[qE cD h,List.map_append];rfl
 repeat' (first|with_reducible (first|exact VQ|refine ab ?_ ?_|exact True.intro|exact bu.nil _|refine DQ ?_|assumption)|((with_reducible apply bH);intro hbq;(try simp only[bq] at hbq);(try (exfalso;omega)))|refine RQ ?_|((with_reducible apply db);rfl)|((with_reducible apply zD);exact rfl)|omega)
 ·
  refine az (i+1) ?_ ((by omega)) (by (try dsimp only);omega);refine WQ ?_ ?_<;>repeat' (first|with_reducible (first|refine KQ ?_|refine ab ?_ ?_|exact True.intro)|refine ax rfl ?_ ?_|exact aE.ah|exact aE.ao|exact aE.al|refine aN.cells ?_ ?_|refine aN.bF ?_ ?_|refine cg.cons ?_ ?_|exact (rfl:known _=_)|exact (rfl:aF _=true)|with_reducible rfl|omega)
  ·rw[hsn (by omega)];rfl
 ·have hie:i=L.secs.length:=by omega
  subst hie;rw[List.take_length]
  repeat' (first|with_reducible (first|refine KQ ?_|exact True.intro)|refine mB.c ?_)
theorem zF (L:bJ) (s1:yp L.sts) (s2:yp L.pts) (s3:yp (L.secs.map eP.nm)) (m1:L.sts.length<=9223372036854775807) (m2:L.pts.length<=9223372036854775807) (m3:L.secs.length<=9223372036854775807) (m4:L.lnks.length<=9223372036854775807):cd Tryz.prog 65 [bK L] [] (vI (bB L)) []:=by
 by_cases hf:24<L.sts.length\/48<L.pts.length\/96<L.secs.length\/192<L.lnks.length
 ·unfold bB
  rw[if_pos hf];unfold bK;refine PQ Tryz.func65 ?_;simp only[cu,Nat.zero_add,Nat.reduceAdd]
  repeat' (first|with_reducible (first|refine ab ?_ ?_|exact True.intro|refine DQ ?_|assumption)|with_reducible (refine ay ?_)|((with_reducible apply av);refine aq rfl ?_ ?_;all_goals (intro hbq;(try simp only[bq] at hbq);(try (exfalso;omega))))|refine RQ ?_|(intro (hgq:(_:Bool)=true);(try simp only[bq] at hgq))|(intro (hgq:(_:Bool)=false);(try simp only[bq] at hgq))|((with_reducible apply cH);simp only[bq])|(simp only[hgq,bq];done))
  all_goals rfl
 by_cases hz:L.secs.length=0
 ·unfold bB
  rw[if_neg hf,if_pos hz];unfold bK;refine PQ Tryz.func65 ?_;simp only[cu,Nat.zero_add,Nat.reduceAdd]
  repeat' (first|with_reducible (first|refine ab ?_ ?_|exact True.intro|refine DQ ?_|assumption)|with_reducible (refine ay ?_)|((with_reducible apply av);refine aq rfl ?_ ?_;all_goals (intro hbq;(try simp only[bq] at hbq);(try (exfalso;omega))))|refine RQ ?_|(intro (hgq:(_:Bool)=true);(try simp only[bq] at hgq))|(intro (hgq:(_:Bool)=false);(try simp only[bq] at hgq))|((with_reducible apply cH);simp only[bq])|(simp only[hgq,bq];done))
  all_goals rfl
 have hR:bB L=ep (aW (L.sts.take 0) (L.sts.drop 0)) (ep (aW (L.pts.take 0) (L.pts.drop 0)) (ep (cx L.sts.length ((L.secs.map eP.nm).take 0) (L.secs.drop 0)) (bm L.secs.length L.pts.length (L.lnks.take 0) (L.lnks.drop 0)))):=by
  unfold bB;rw[if_neg hf,if_neg hz];rfl
 have hN:=sK L (by omega);have hK:=fun i hi=>BO L i hi (by omega) (by omega) (by omega)
 generalize bB L=R at*;unfold bK at hN hK⊢;refine PQ Tryz.func65 ?_;simp only[cu,Nat.zero_add,Nat.reduceAdd]
 repeat' (first|with_reducible (first|refine ab ?_ ?_|exact True.intro|refine DQ ?_|assumption)|with_reducible (first|refine ay ?_|refine aD ?_)|((with_reducible apply av);refine aq rfl ?_ ?_;all_goals (intro hbq;(try simp only[bq] at hbq);(try (exfalso;omega))))|refine RQ ?_|(intro (hgq:(_:Bool)=true);(try simp only[bq] at hgq))|(intro (hgq:(_:Bool)=false);(try simp only[bq] at hgq))|((with_reducible apply cH);simp only[bq])|(simp only[hgq,bq];done))
 refine aH (fun i:Nat=>SS [sC 1 (pB 0),sI 3 i] [some (.cells [ed L.sts,ed L.pts,mJ L.secs,kC L.lnks])]) (fun i=>i<=L.sts.length/\R=ep (aW (L.sts.take i) (L.sts.drop i)) (ep (aW (L.pts.take 0) (L.pts.drop 0)) (ep (cx L.sts.length ((L.secs.map eP.nm).take 0) (L.secs.drop 0)) (bm L.secs.length L.pts.length (L.lnks.take 0) (L.lnks.drop 0))))) (fun i=>L.sts.length-i) 0 ?_ ⟨by omega,hR⟩ ?_
 ·
  refine WQ ?_ ?_<;>repeat' (first|with_reducible (first|refine KQ ?_|refine ab ?_ ?_|exact True.intro)|refine ax rfl ?_ ?_|exact aE.ah|exact aE.ao|exact aE.al|refine aN.cells ?_ ?_|refine aN.bF ?_ ?_|refine cg.cons ?_ ?_|exact (rfl:known _=_)|exact (rfl:aF _=true)|with_reducible rfl|omega)
 clear hR;rintro i ⟨hi,hR⟩;by_cases hil:i<L.sts.length
 ·have hC:=mo L.sts i hil (by omega) s1
  by_cases hz2:bG (L.sts.take i) (L.sts.getD i ⟨#[]⟩)=0
  ·rw[hz2] at hC
   rw[Fv hil hz2] at hR
   repeat' (first|with_reducible (first|refine ab ?_ ?_|exact True.intro|refine DQ ?_|fail)|((with_reducible apply aC);refine an (hC) rfl ?_)|with_reducible (first|refine ay ?_|refine aD ?_)|((with_reducible apply av);refine aq rfl ?_ ?_;all_goals (intro hbq;(try simp only[bq] at hbq);(try (exfalso;omega))))|refine RQ ?_|omega)
   ·
    refine az (i+1) ?_ (⟨by omega,hR⟩) (by (try dsimp only);omega);refine WQ ?_ ?_<;>repeat' (first|with_reducible (first|refine KQ ?_|refine ab ?_ ?_|exact True.intro)|refine ax rfl ?_ ?_|exact aE.ah|exact aE.ao|exact aE.al|refine aN.cells ?_ ?_|refine aN.bF ?_ ?_|refine cg.cons ?_ ?_|exact (rfl:known _=_)|exact (rfl:aF _=true)|with_reducible rfl|omega)
  ·rw[Fw hil hz2,zx hz2] at hR
   rw[← hR] at hC hz2
   repeat' (first|with_reducible (first|refine ab ?_ ?_|exact True.intro|refine DQ ?_|fail)|((with_reducible apply aC);refine an (hC) rfl ?_)|with_reducible (first|refine ay ?_|refine aD ?_)|((with_reducible apply av);refine aq rfl ?_ ?_;all_goals (intro hbq;(try simp only[bq] at hbq);(try (exfalso;omega))))|refine RQ ?_|fail)
   all_goals rfl
 have hie:i=L.sts.length:=by omega
 subst hie;rw[List.drop_length,aW,zy] at hR
 repeat' (first|with_reducible (first|refine ab ?_ ?_|exact True.intro|refine DQ ?_|fail)|with_reducible (first|refine ay ?_|refine aD ?_)|((with_reducible apply av);refine aq rfl ?_ ?_;all_goals (intro hbq;(try simp only[bq] at hbq);(try (exfalso;omega))))|refine RQ ?_|fail)
 refine aH (fun i:Nat=>SS [sC 1 (pB 0),sI 5 i] [some (.cells [ed L.sts,ed L.pts,mJ L.secs,kC L.lnks])]) (fun i=>i<=L.pts.length/\R=ep (aW (L.pts.take i) (L.pts.drop i)) (ep (cx L.sts.length ((L.secs.map eP.nm).take 0) (L.secs.drop 0)) (bm L.secs.length L.pts.length (L.lnks.take 0) (L.lnks.drop 0)))) (fun i=>L.pts.length-i) 0 ?_ ⟨by omega,hR⟩ ?_
 ·
  refine WQ ?_ ?_<;>repeat' (first|with_reducible (first|refine KQ ?_|refine ab ?_ ?_|exact True.intro)|refine ax rfl ?_ ?_|exact aE.ah|exact aE.ao|exact aE.al|refine aN.cells ?_ ?_|refine aN.bF ?_ ?_|refine cg.cons ?_ ?_|exact (rfl:known _=_)|exact (rfl:aF _=true)|with_reducible rfl|omega)
 clear hR;rintro i ⟨hi2,hR⟩;by_cases hil:i<L.pts.length
 ·have hC:=mo L.pts i hil (by omega) s2
  by_cases hz2:bG (L.pts.take i) (L.pts.getD i ⟨#[]⟩)=0
  ·rw[hz2] at hC
   rw[Fv hil hz2] at hR
   repeat' (first|with_reducible (first|refine ab ?_ ?_|exact True.intro|refine DQ ?_|fail)|((with_reducible apply aC);refine an (hC) rfl ?_)|with_reducible (first|refine ay ?_|refine aD ?_)|((with_reducible apply av);refine aq rfl ?_ ?_;all_goals (intro hbq;(try simp only[bq] at hbq);(try (exfalso;omega))))|refine RQ ?_|omega)
   ·
    refine az (i+1) ?_ (⟨by omega,hR⟩) (by (try dsimp only);omega);refine WQ ?_ ?_<;>repeat' (first|with_reducible (first|refine KQ ?_|refine ab ?_ ?_|exact True.intro)|refine ax rfl ?_ ?_|exact aE.ah|exact aE.ao|exact aE.al|refine aN.cells ?_ ?_|refine aN.bF ?_ ?_|refine cg.cons ?_ ?_|exact (rfl:known _=_)|exact (rfl:aF _=true)|with_reducible rfl|omega)
  ·rw[Fw hil hz2,zx hz2] at hR
   rw[← hR] at hC hz2
   repeat' (first|with_reducible (first|refine ab ?_ ?_|exact True.intro|refine DQ ?_|fail)|((with_reducible apply aC);refine an (hC) rfl ?_)|with_reducible (first|refine ay ?_|refine aD ?_)|((with_reducible apply av);refine aq rfl ?_ ?_;all_goals (intro hbq;(try simp only[bq] at hbq);(try (exfalso;omega))))|refine RQ ?_|fail)
   all_goals rfl
 have hie:i=L.pts.length:=by omega
 subst hie;rw[List.drop_length,aW,zy] at hR;have hml:(L.secs.map eP.nm).length=L.secs.length:=by rw[List.length_map]
 repeat' (first|with_reducible (first|refine ab ?_ ?_|exact True.intro|refine DQ ?_|fail)|((with_reducible apply aC);refine an (hN) rfl ?_)|with_reducible (first|refine ay ?_|refine aD ?_)|((with_reducible apply av);refine aq rfl ?_ ?_;all_goals (intro hbq;(try simp only[bq] at hbq);(try (exfalso;omega))))|refine RQ ?_|fail)
 refine aH (fun i:Nat=>SS [sC 1 (pB 0),sC 7 (ed (L.secs.map eP.nm)),sI 8 i] [some (.cells [ed L.sts,ed L.pts,mJ L.secs,kC L.lnks])]) (fun i=>i<=L.secs.length/\R=ep (cx L.sts.length ((L.secs.map eP.nm).take i) (L.secs.drop i)) (bm L.secs.length L.pts.length (L.lnks.take 0) (L.lnks.drop 0))) (fun i=>L.secs.length-i) 0 ?_ ⟨by omega,hR⟩ ?_
 ·
  refine WQ ?_ ?_<;>repeat' (first|with_reducible (first|refine KQ ?_|refine ab ?_ ?_|exact True.intro)|refine ax rfl ?_ ?_|exact aE.ah|exact aE.ao|exact aE.al|refine aN.cells ?_ ?_|refine aN.bF ?_ ?_|refine cg.cons ?_ ?_|exact (rfl:known _=_)|exact (rfl:aF _=true)|with_reducible rfl|omega)
 clear hR;rintro i ⟨hi3,hR⟩;by_cases hil:i<L.secs.length
 ·have hC:=mo (L.secs.map eP.nm) i (by omega) (by omega) s3
  by_cases hz2:bG ((L.secs.map eP.nm).take i) ((L.secs.map eP.nm).getD i ⟨#[]⟩)=0
  ·rw[hz2] at hC
   have c1:=fc (L.secs.getD (i:Int).toNat cD).len 1 400;have c2:=fc (L.secs.getD (i:Int).toNat cD).lim 1000 100000;have c3:=fc (L.secs.getD (i:Int).toNat cD).grd (-40) 40;have c4:=fc (L.secs.getD (i:Int).toNat cD).stn (-1) ((L.sts.length:Int)-1);by_cases hb:kD L.sts.length (L.secs.getD i cD)=true
   ·rw[PL hil hz2 hb] at hR
    have hq:=mr (show kD L.sts.length (L.secs.getD (i:Int).toNat cD)=true from hb)
    repeat' (first|with_reducible (first|refine ab ?_ ?_|exact True.intro|refine DQ ?_|assumption)|((with_reducible apply aC);first|refine an (hC) rfl ?_|refine an (c1) rfl ?_)|((with_reducible apply aZ);refine aX ((fun _=>c2)) rfl ?_ ?_)|((with_reducible apply aZ);refine aX ((fun _=>c3)) rfl ?_ ?_)|((with_reducible apply aZ);refine aX ((fun _=>c4)) rfl ?_ ?_)|with_reducible (first|refine ay ?_|refine aD ?_)|((with_reducible apply av);refine aq rfl ?_ ?_;all_goals (intro hbq;(try simp only[bq] at hbq);(try (exfalso;omega))))|refine RQ ?_|(intro (hgq:(_:Bool)=true);(try simp only[bq] at hgq))|(intro (hgq:(_:Bool)=false);(try simp only[bq] at hgq))|((with_reducible apply aL);exact fun _=>⟨rfl,rfl⟩)|((with_reducible apply cH);simp only[bq])|(simp only[hgq,bq];done)|omega)
    ·
     refine az (i+1) ?_ (⟨by omega,hR⟩) (by (try dsimp only);omega);refine WQ ?_ ?_<;>repeat' (first|with_reducible (first|refine KQ ?_|refine ab ?_ ?_|exact True.intro)|refine ax rfl ?_ ?_|exact aE.ah|exact aE.ao|exact aE.al|refine aN.cells ?_ ?_|refine aN.bF ?_ ?_|refine cg.cons ?_ ?_|exact (rfl:known _=_)|exact (rfl:aF _=true)|with_reducible rfl|omega)
   ·rw[PN hil hz2 hb] at hR
    have hq: ¬ kD L.sts.length (L.secs.getD (i:Int).toNat cD)=true:=hb;unfold kD at hq
    rw[decide_eq_true_eq] at hq;have hR4:R=4:=hR;subst hR4
    repeat' (first|with_reducible (first|refine ab ?_ ?_|exact True.intro|refine DQ ?_|assumption)|((with_reducible apply aC);first|refine an (hC) rfl ?_|refine an (c1) rfl ?_)|((with_reducible apply aZ);refine aX ((fun _=>c2)) rfl ?_ ?_)|((with_reducible apply aZ);refine aX ((fun _=>c3)) rfl ?_ ?_)|((with_reducible apply aZ);refine aX ((fun _=>c4)) rfl ?_ ?_)|with_reducible (first|refine ay ?_|refine aD ?_)|((with_reducible apply av);refine aq rfl ?_ ?_;all_goals (intro hbq;(try simp only[bq] at hbq);(try (exfalso;omega))))|refine RQ ?_|(intro (hgq:(_:Bool)=true);(try simp only[bq] at hgq))|(intro (hgq:(_:Bool)=false);(try simp only[bq] at hgq))|((with_reducible apply aL);exact fun _=>⟨rfl,rfl⟩)|((with_reducible apply cH);simp only[bq])|(simp only[hgq,bq];done)|omega)
    all_goals rfl
  ·rw[PM hil hz2,zx hz2] at hR
   rw[← hR] at hC hz2
   repeat' (first|with_reducible (first|refine ab ?_ ?_|exact True.intro|refine DQ ?_|fail)|((with_reducible apply aC);refine an (hC) rfl ?_)|with_reducible (first|refine ay ?_|refine aD ?_)|((with_reducible apply av);refine aq rfl ?_ ?_;all_goals (intro hbq;(try simp only[bq] at hbq);(try (exfalso;omega))))|refine RQ ?_|fail)
   all_goals rfl
 have hie:i=L.secs.length:=by omega
 subst hie;rw[List.drop_length,cx,zy] at hR
 repeat' (first|with_reducible (first|refine ab ?_ ?_|exact True.intro|refine DQ ?_|fail)|with_reducible (first|refine ay ?_|refine aD ?_)|((with_reducible apply av);refine aq rfl ?_ ?_;all_goals (intro hbq;(try simp only[bq] at hbq);(try (exfalso;omega))))|refine RQ ?_|fail)
 refine aH (fun i:Nat=>SS [sC 1 (pB 0),sI 11 i] [some (.cells [ed L.sts,ed L.pts,mJ L.secs,kC L.lnks])]) (fun i=>i<=L.lnks.length/\R=bm L.secs.length L.pts.length (L.lnks.take i) (L.lnks.drop i)) (fun i=>L.lnks.length-i) 0 ?_ ⟨by omega,hR⟩ ?_
 ·
  refine WQ ?_ ?_<;>repeat' (first|with_reducible (first|refine KQ ?_|refine ab ?_ ?_|exact True.intro)|refine ax rfl ?_ ?_|exact aE.ah|exact aE.ao|exact aE.al|refine aN.cells ?_ ?_|refine aN.bF ?_ ?_|refine cg.cons ?_ ?_|exact (rfl:known _=_)|exact (rfl:aF _=true)|with_reducible rfl|omega)
 clear hR;rintro i ⟨hi4,hR⟩;by_cases hil:i<L.lnks.length
 ·have hC:=hK i hil
  by_cases hz2:cN L.secs.length L.pts.length (L.lnks.take i) (L.lnks.getD i a9)=0
  ·rw[hz2] at hC
   rw[Ms hil hz2] at hR
   repeat' (first|with_reducible (first|refine ab ?_ ?_|exact True.intro|refine DQ ?_|fail)|((with_reducible apply aC);refine an (hC) rfl ?_)|with_reducible (first|refine ay ?_|refine aD ?_)|((with_reducible apply av);refine aq rfl ?_ ?_;all_goals (intro hbq;(try simp only[bq] at hbq);(try (exfalso;omega))))|refine RQ ?_|omega)
   ·
    refine az (i+1) ?_ (⟨by omega,hR⟩) (by (try dsimp only);omega);refine WQ ?_ ?_<;>repeat' (first|with_reducible (first|refine KQ ?_|refine ab ?_ ?_|exact True.intro)|refine ax rfl ?_ ?_|exact aE.ah|exact aE.ao|exact aE.al|refine aN.cells ?_ ?_|refine aN.bF ?_ ?_|refine cg.cons ?_ ?_|exact (rfl:known _=_)|exact (rfl:aF _=true)|with_reducible rfl|omega)
  ·rw[Mt hil hz2] at hR
   rw[← hR] at hC hz2
   repeat' (first|with_reducible (first|refine ab ?_ ?_|exact True.intro|refine DQ ?_|fail)|((with_reducible apply aC);refine an (hC) rfl ?_)|with_reducible (first|refine ay ?_|refine aD ?_)|((with_reducible apply av);refine aq rfl ?_ ?_;all_goals (intro hbq;(try simp only[bq] at hbq);(try (exfalso;omega))))|refine RQ ?_|fail)
   all_goals rfl
 have hie:i=L.lnks.length:=by omega
 subst hie;rw[List.drop_length,bm] at hR;subst hR
 repeat' (first|with_reducible (first|refine ab ?_ ?_|exact True.intro|refine DQ ?_|fail)|with_reducible (refine ay ?_)|((with_reducible apply av);refine aq rfl ?_ ?_;all_goals (intro hbq;(try simp only[bq] at hbq);(try (exfalso;omega))))|refine RQ ?_|fail)
 all_goals rfl
end Go.Proofs.YtjkeeocnekggfaaGreat.Av
namespace Go.Proofs.YtjkeeocnekggfaaGreat
open Go.RowKit
def hY (w:World) (p:Nat) (vs:List Value):Prop:=p<w.heap.size/\ ∀ (j:Nat) (v:Value),vs[j]? =some v->w.cell? ⟨p,j,none⟩=some v
theorem hY.new (w:World) (vs:List Value) (t:TypeId):hY (w.alloc (.cells vs.toArray t)) w.heap.size vs:=
 ⟨by simp,fun j v h=>by
  have e:=(MapKept.heap_alloc w (.cells vs.toArray t)).1;show (match (w.alloc (.cells vs.toArray t)).heap[w.heap.size]? with|some (.cells c _ _)=>if Option.isSome (none:Option Nat) then none else c[j]? |_=>none)=some v
  rw[e];simpa using h⟩
theorem hY.below {w w':World} {p:Nat} {vs:List Value} (h:hY w p vs) (hb:Below w.heap.size w w'):hY w' p vs:=
 ⟨Nat.lt_of_lt_of_le h.1 hb.size,fun j v e=>(hb.cell (p:=⟨p,j,none⟩) h.1).trans (h.2 j v e)⟩
theorem hY.of_block {w w':World} {p:Nat} {vs:List Value} (h:hY w p vs) (hs:p<w'.heap.size) (e:w'.heap[p]? =w.heap[p]?):hY w' p vs:=
 ⟨hs,fun j v hv=>(World.cell?_of_block (w:=w) (a:=⟨p,j,none⟩) e).trans (h.2 j v hv)⟩
def Gb {α:Type} (n:Nat) (f:α->List Value) (w:World) (A:Option Addr) (xs:List α):Prop:=
 ∀ k (h:k<xs.length),∃ b off,A=some ⟨b,off,none⟩/\b<w.heap.size/\ ∀ (j:Nat) (v:Value),(f xs[k])[j]? =some v->w.cell? ⟨b,off+k*n+j,none⟩=some v
theorem Gb.below {α:Type} {n:Nat} {f:α->List Value} {w w':World} {A:Option Addr} {xs:List α} (h:Gb n f w A xs) (hb:Below w.heap.size w w'):Gb n f w' A xs:=by
 intro k hk;obtain ⟨b,off,e,hlt,h1⟩:=h k hk;exact ⟨b,off,e,Nat.lt_of_lt_of_le hlt hb.size,fun j v hv=>(hb.cell (p:=⟨b,_,none⟩) hlt).trans (h1 j v hv)⟩
def Nf (s:ByteArray):List Value:=[.string s]
def Rr (s:eP):List Value:=[.string s.nm,.int .i64 s.len,.int .i64 s.lim,.int .i64 s.grd,.int .i64 s.stn]
def lf (k:dF):List Value:=[.int .i64 k.a,.int .i64 k.ae,.int .i64 k.b,.int .i64 k.be,.int .i64 k.pt,.int .i64 k.ps]
structure CD where
 A1:Option Addr
 c1:Nat
 A2:Option Addr
 c2:Nat
 A3:Option Addr
 c3:Nat
 A4:Option Addr
 c4:Nat
def wK (l:List ByteArray):Prop:= ∀ s∈l,s.size<=9223372036854775807
structure wJ (w:World) (V:CD) (L:bJ):Prop where
 r1:Gb 1 Nf w V.A1 L.sts
 r2:Gb 1 Nf w V.A2 L.pts
 r3:Gb 5 Rr w V.A3 L.secs
 r4:Gb 6 lf w V.A4 L.lnks
 s1:wK L.sts
 s2:wK L.pts
 s3:wK (L.secs.map eP.nm)
 n1:L.sts.length<=V.c1
 n2:L.pts.length<=V.c2
 n3:L.secs.length<=V.c3
 n4:L.lnks.length<=V.c4
 m1:L.sts.length<=9223372036854775807
 m2:L.pts.length<=9223372036854775807
 m3:L.secs.length<=9223372036854775807
 m4:L.lnks.length<=9223372036854775807
theorem wJ.below {w w':World} {V:CD} {L:bJ} (h:wJ w V L) (hb:Below w.heap.size w w'):wJ w' V L:=
 ⟨h.r1.below hb,h.r2.below hb,h.r3.below hb,h.r4.below hb,h.s1,h.s2,h.s3,h.n1,h.n2,h.n3,h.n4,h.m1,h.m2,h.m3,h.m4⟩
theorem pg (V:CD) (L:bJ) (s:eP) (w:World):
  Calls Tryz.prog 186 #[.agg #[.slice V.A1 L.sts.length V.c1,.slice V.A2 L.pts.length V.c2,.slice V.A3 L.secs.length V.c3,.slice V.A4 L.lnks.length V.c4],.agg #[.string s.nm,.int .i64 s.len,.int .i64 s.lim,.int .i64 s.grd,.int .i64 s.stn]] w fun e w'=>e= .returned (.bool (kD L.sts.length s))/\Below w.heap.size w w':=by
 go_enter Tryz.func186,Tryz.ntmps186
 go_wp2
 all_goals
  go_ret
  exact ⟨aO (by rw[Bool.eq_iff_iff];simp[kD];try omega),((Below.refl _ _).alloc (Nat.le_refl _) _).alloc (by simp) _⟩
end Go.Proofs.YtjkeeocnekggfaaGreat
namespace Go.Proofs.YtjkeeocnekggfaaGreat
open Go.RowKit
theorem E6 {α:Type} (f:α->List Value) (n:Nat) (hf: ∀ x,(f x).length=n): ∀ (xs:List α) (k:Nat) (h:k<xs.length) (j:Nat),j<n->(xs.flatMap f)[k*n+j]? =(f xs[k])[j]?
 |[],k,h,_,_=>absurd h (Nat.not_lt_zero _)
 |x::r,0,_,j,hj=>by
  rw[List.flatMap_cons,Nat.zero_mul,Nat.zero_add,List.getElem?_append_left (by rw[hf];exact hj)];rfl
 |x::r,k+1,h,j,hj=>by
  have ih:=E6 f n hf r k (by simpa using h) j hj;rw[List.flatMap_cons,show (k+1)*n+j=k*n+j+n by rw[Nat.add_mul];omega,List.getElem?_append_right (by rw[hf];omega),hf,Nat.add_sub_cancel,ih];rfl
theorem LH (b j:Nat):((⟨b,0,none⟩:Addr).add j)=⟨b,j,none⟩:=by unfold Addr.add;split<;>simp_all
def ot {α:Type} (w:World) (base:Nat) (T:TypeId) (n:Nat) (f:α->List Value) (v:Value) (xs:List α):Prop:=w.ownsRow base T n v xs.length (xs.flatMap f)
theorem ot.nil {α:Type} (w:World) (base:Nat) (T:TypeId) (n:Nat) (f:α->List Value):ot w base T n f (.slice none 0 0) []:=World.ownsRow_nil w base T n
theorem ot.shape {α:Type} {w:World} {base:Nat} {T:TypeId} {n:Nat} {f:α->List Value} {v:Value} {xs:List α} (h:ot w base T n f v xs): ∃ A c,v= .slice A xs.length c/\xs.length<=c/\c<=9223372036854775807:=by
 rcases h.2 with ⟨h1,h2⟩|⟨g,cap,cur,h1,_,_,h3,h4,_⟩
 ·exact ⟨none,0,by rw[h1,h2],by omega,by omega⟩
 ·exact ⟨_,cap,h1,h3,by unfold maxLen at h4;omega⟩
theorem ot.kept {α:Type} {w w':World} {base:Nat} {T:TypeId} {n:Nat} {f:α->List Value} {v:Value} {xs:List α} {row:Option Nat} (h:ot w base T n f v xs) (hg:w.grownBy w' row) (hne:v.ownBlock=none\/v.ownBlock≠row):ot w' base T n f v xs:=
 World.ownsRow.kept h hg hne
theorem uV {w w':World} (hb:Below w.heap.size w w'):w.grownBy w' none:=⟨hb.os,hb.tape,hb.output,hb.size,fun k hk _=>hb.block k hk⟩
theorem ot.below {α:Type} {w w':World} {base:Nat} {T:TypeId} {n:Nat} {f:α->List Value} {v:Value} {xs:List α} (h:ot w base T n f v xs) (hb:Below w.heap.size w w'):ot w' base T n f v xs:=
 h.kept (uV hb) (by cases hv:v.ownBlock<;>simp)
theorem ot.rd {α:Type} {w:World} {base:Nat} {T:TypeId} {n:Nat} {f:α->List Value} {A:Option Addr} {m c:Nat} {xs:List α} (hf: ∀ x,(f x).length=n) (h:ot w base T n f (.slice A m c) xs):Gb n f w A xs:=by
 intro k hk;rcases h.2 with ⟨h1,h2⟩|⟨g,cap,cur,h1,_,hb,h3,h4,h5,h6⟩
 ·omega
 ·injection h1 with e1 e2 e3
  subst e1;refine ⟨g,0,rfl,(Array.getElem?_eq_some_iff.1 hb).1,fun j v hv=> ?_⟩;have hjn:j<n:=by
   have:=(List.getElem?_eq_some_iff.1 hv).1;rw[hf] at this;exact this
  have e:=E6 f n hf xs k hk j hjn;rw[hv] at e
  have:=World.ownsRow.cells h (g:=g) rfl _ _ e;rw[LH] at this
  rwa [Nat.zero_add]
end Go.Proofs.YtjkeeocnekggfaaGreat
namespace Go.Proofs.YtjkeeocnekggfaaGreat
open Go.RowKit
theorem JG (k:dF):(lf k).length=6:=rfl
structure tM (w x:World) (n:Nat) (E:Nat->List dF) (Vs:Nat->Value):Prop where
 row:x.rowIs w.heap.size 25 n Vs
 own: ∀ i,i<n->ot x (w.heap.size+1) 241 6 lf (Vs i) (E i)
 apart: ∀ i j,i<n->j<n->i≠j->(Vs i).ownBlock=none\/(Vs i).ownBlock≠(Vs j).ownBlock
 bel:Below w.heap.size w x
theorem tM.call {w x y:World} {n:Nat} {E:Nat->List dF} {Vs:Nat->Value} (h:tM w x n E Vs) (hb:Below x.heap.size x y):tM w y n E Vs:=
 ⟨h.row.of_block (hb.block _ h.row.lt),fun i hi=>(h.own i hi).below hb,h.apart,h.bel.trans (hb.mono h.bel.size)⟩
theorem tM.congr {w x:World} {n:Nat} {E E':Nat->List dF} {Vs:Nat->Value} (h:tM w x n E Vs) (e: ∀ i,i<n->E i=E' i):tM w x n E' Vs:=
 ⟨h.row,fun i hi=>by rw[← e i hi];exact h.own i hi,h.apart,h.bel⟩
theorem tM.dk {w x:World} {n:Nat} {E:Nat->List dF} {Vs:Nat->Value} (h:tM w x n E Vs) {i:Nat} (hi:i<n) {q:Nat} (hq:(Vs i).ownBlock=some q):w.heap.size+1<=q/\q<x.heap.size:=
 World.ownsRow.lt (h.own i hi) q hq
theorem tM.start {w x:World} {n:Nat} (hrow:x.rowIs w.heap.size 25 n (fun _=> .slice none 0 0)) (hb:Below w.heap.size w x):tM w x n (fun _=>[]) (fun _=> .slice none 0 0):=
 ⟨hrow,fun i hi=>ot.nil _ _ _ _ _,fun i j _ _ _=> .inl rfl,hb⟩
theorem tM.put {w x w1:World} {n:Nat} {E:Nat->List dF} {Vs:Nat->Value} (h:tM w x n E Vs) {i:Nat} (hi:i<n) (k:dF) {g cap:Nat}
  (hown:w1.ownsRow (w.heap.size+1) 241 6 (.slice (some ⟨g,0,none⟩) ((E i).length+1) cap) ((E i).length+1) ((E i).flatMap lf++lf k)) (hg:x.grownBy w1 (Vs i).ownBlock) (hat:(Vs i).ownBlock=some g\/g=x.heap.size):
  tM w (w1.setCell ⟨w.heap.size,i,none⟩ (.slice (some ⟨g,0,none⟩) ((E i).length+1) cap)) n (fun j=>if j=i then E i++[k] else E j) (fun j=>if j=i then .slice (some ⟨g,0,none⟩) ((E i).length+1) cap else Vs j):=by
 have hne:some w.heap.size≠(Vs i).ownBlock:=fun e=>by have:=h.dk hi e.symm;omega
 refine ⟨?_,fun j hj=> ?_,fun a b ha hb hab=> ?_,?_⟩
 ·exact (h.row.of_block (hg.block _ h.row.lt hne)).set i _
 ·by_cases hji:j=i
  ·simp only[hji,if_true]
   refine ownsRow_setCell_below (base:=w.heap.size+1) ?_ (by simp) _;rw[List.flatMap_append,List.length_append];simpa using hown
  ·simp only[if_neg hji]
   exact ownsRow_setCell_below (World.ownsRow.kept (h.own j hj) hg (h.apart j i hj hi hji)) (by simp) _
 ·by_cases hai:a=i
  ·have hbi:b≠i:=fun e=>hab (hai.trans e.symm)
   simp only[hai,if_true,if_neg hbi];right;intro e;have e':some g=(Vs b).ownBlock:=e;rcases hat with hat|hat
   ·rcases h.apart b i hb hi hbi with h1|h1
    ·rw[h1] at e';cases e'
    ·exact h1 (by rw[← e',hat])
   ·have:=h.dk hb e'.symm;omega
  ·by_cases hbi:b=i
   ·simp only[hbi,if_true,if_neg hai]
    by_cases hn:(Vs a).ownBlock=none
    ·left;exact hn
    ·right
     intro e;have e':(Vs a).ownBlock=some g:=e;rcases hat with hat|hat
     ·rcases h.apart a i ha hi hai with h1|h1
      ·exact hn h1
      ·exact h1 (by rw[e',hat])
     ·have:=h.dk ha e';omega
   ·simp only[if_neg hai,if_neg hbi]
    exact h.apart a b ha hb hab
 ·exact (h.bel.grown hg h.bel.size (fun q hq=>by have:=h.dk hi hq;omega)).setCell (Nat.le_refl _) _
theorem hY.grown {w w':World} {p:Nat} {vs:List Value} {row:Option Nat} (h:hY w p vs) (hg:w.grownBy w' row) (hne:some p≠row):hY w' p vs:=
 h.of_block (Nat.lt_of_lt_of_le h.1 hg.size) (hg.block p h.1 hne)
theorem hY.Tx {w:World} {p:Nat} {vs:List Value} (h:hY w p vs) {a:Addr} (ha:p≠a.block) (v:Value):hY (w.setCell a v) p vs:=
 h.of_block (by simp[World.setCell];exact h.1) (Below.heap_setCell _ _ _ _ ha)
def sb (i:Nat):Int×Int:=(((i / 2:Nat):Int),((i%2:Nat):Int))
def sU (prev:List dF) (i:Nat):List dF:=qK prev (sb i)
theorem AU {a ae:Int} {i:Nat} (h1:0<=a) (h2:0<=ae) (h3:ae<=1) (hi:2*a+ae=i):sb i=(a,ae):=by
 unfold sb;congr 1<;>omega
theorem uk (prev:List dF) (k:dF) (x:Int×Int):qK (prev++[k]) x=if eU k x=true then qK prev x++[k] else qK prev x:=by
 unfold qK;rw[List.filter_append];by_cases h:eU k x=true
 ·rw[if_pos h];simp[h]
 ·rw[if_neg h];simp[h]
theorem Mj {k:dF} {ia ib:Nat} (h1:0<=k.a) (h2:0<=k.ae) (h3:k.ae<=1) (h4:0<=k.b) (h5:0<=k.be) (h6:k.be<=1) (ha:2*k.a+k.ae=ia) (hb:2*k.b+k.be=ib) (i:Nat):eU k (sb i)=true↔i=ia\/i=ib:=by
 unfold eU sb;simp only[decide_eq_true_eq];omega
theorem IV {prev:List dF} {k:dF} {ia ib:Nat} (h1:0<=k.a) (h2:0<=k.ae) (h3:k.ae<=1) (h4:0<=k.b) (h5:0<=k.be) (h6:k.be<=1) (ha:2*k.a+k.ae=ia) (hb:2*k.b+k.be=ib) (hne:ia≠ib) (i:Nat):
  (if i=ib then (if ib=ia then sU prev ia++[k] else sU prev ib)++[k] else if i=ia then sU prev ia++[k] else sU prev i)=sU (prev++[k]) i:=by
 have hh:=Mj h1 h2 h3 h4 h5 h6 ha hb;have e: ∀ j,sU (prev++[k]) j=if eU k (sb j)=true then sU prev j++[k] else sU prev j:=fun j=>uk _ _ _
 rw[e];by_cases hib:i=ib
 ·rw[if_pos hib,if_neg (Ne.symm hne),if_pos ((hh i).2 (.inr hib)),hib]
 ·rw[if_neg hib]
  by_cases hia:i=ia
  ·rw[if_pos hia,if_pos ((hh i).2 (.inl hia)),hia]
  ·rw[if_neg hia,if_neg (fun h=>by rcases (hh i).1 h with h|h;exact hia h;exact hib h)]
end Go.Proofs.YtjkeeocnekggfaaGreat
namespace Go.Proofs.YtjkeeocnekggfaaGreat
section
variable {P:Program} {ops oh:Array Oper} {md:Region.Mode} {C:World->Prop} {n:Nat}
theorem vZ {Q:Exit->Act->World->Prop}: ∀ (f:Nat) (listed:Array Bool) (a:Act) (w:World),wpAny P md ops Q f listed a w->wpAny P md ops Q (f+1) listed a w
 |0,_,_,_,h=>⟨fun _=>h.2,fun i hi=>by rw[h.1] at hi;cases hi⟩
 |f+1,_,_,_,h=>⟨h.1,fun i hi=>wpOp_mono (fun a' w' h'=>vZ f _ a' w' h') (h.2 i hi)⟩
theorem zX {Q:Exit->Act->World->Prop} (f g:Nat) (listed:Array Bool) (a:Act) (w:World) (h:wpAny P md ops Q f listed a w):wpAny P md ops Q (g+f) listed a w:=by
 induction g with
 |zero=>rw[Nat.zero_add];exact h
 |succ g ih=>rw[show g+1+f=g+f+1 by omega];exact vZ _ _ _ _ ih
def xh (md:Region.Mode) (ops:Array Oper) (n:Nat):Bool:=
 (List.range n).all fun j=>match ops[j]? with
  |some o=>(o.after.all fun e=> !Region.binds md e||decide (e.on<j))&&(match o.guard with|none=>true|some (i,_)=>decide (i<n))
  |none=>false
theorem oV (h:xh md ops n=true) {j:Nat} (hj:j<n):
  ∃ o,ops[j]? =some o/\(∀ e∈o.after,Region.binds md e=true->e.on<j)/\(∀ i b,o.guard=some (i,b)->i<n):=by
 have h1:=List.all_eq_true.1 h j (List.mem_range.2 hj);cases ho:ops[j]? with
 |none=>rw[ho] at h1;cases h1
 |some o=>
  rw[ho] at h1;simp only[Bool.and_eq_true] at h1;refine ⟨o,rfl,fun e he hb=> ?_,fun i b hg=> ?_⟩
  ·have:=(Array.all_eq_true'.1 h1.1) e he
   rw[hb] at this;simpa using this
  ·have:=h1.2
   rw[hg] at this;simpa using this
theorem Ei {listed:Array Bool} (hB:xh md ops n=true) (hsz:n<=listed.size): ∀ j,j<n->listed.getD j true=false-> ∃ i∈Region.ready md ops listed,i<n:=by
 intro j
 induction j using Nat.strongRecOn with
 |_ j ih=>
  intro hj hun;obtain ⟨o,ho,hback,_⟩:=oV hB hj;by_cases hall: ∀ e∈o.after,Region.binds md e=true->listed.getD e.on false=true
  ·exact ⟨j,mem_ready.2 ⟨hun,o,ho,hall⟩,hj⟩
  ·obtain ⟨e,he⟩:=Classical.not_forall.1 hall
   obtain ⟨hm,he2⟩:=Classical.not_imp.1 he;obtain ⟨hb,hl⟩:=Classical.not_imp.1 he2;have hlt:=hback e hm hb;exact ih e.on hlt (by omega) (getD_in (by omega) (by simpa using hl))
theorem zY (hoh: ∀ j,j<n->oh[j]? =ops[j]?) (t:Array Value) {j:Nat} (hj:j<n):yielded oh t j=yielded ops t j:=by
 unfold yielded;rw[hoh j hj]
theorem CA (hoh: ∀ j,j<n->oh[j]? =ops[j]?) (t:Array Value) {o:Oper} (hg: ∀ i b,o.guard=some (i,b)->i<n):Region.wanted o (yielded oh t)=Region.wanted o (yielded ops t):=by
 unfold Region.wanted;cases ho:o.guard with
 |none=>rfl
 |some x=>
  obtain ⟨i,b⟩:=x;simp only;rw[zY hoh t (hg i b ho)]
theorem ml {lh listed:Array Bool} (hB:xh md ops n=true) (hoh: ∀ j,j<n->oh[j]? =ops[j]?) (hag: ∀ j d,j<n->lh.getD j d=listed.getD j d) {j:Nat} (hj:j<n):
  j∈Region.ready md ops listed↔j∈Region.ready md oh lh:=by
 obtain ⟨o,ho,hback,_⟩:=oV hB hj;rw[mem_ready,mem_ready,hag j true hj,hoh j hj];constructor
 ·rintro ⟨h0,o',ho',h1⟩
  refine ⟨h0,o',ho',fun e he hb=> ?_⟩;rw[ho] at ho';injection ho' with ho';subst ho'
  rw[hag _ _ (by have:=hback e he hb;omega)];exact h1 e he hb
 ·rintro ⟨h0,o',ho',h1⟩
  refine ⟨h0,o',ho',fun e he hb=> ?_⟩;rw[ho] at ho';injection ho' with ho';subst ho'
  rw[← hag _ _ (by have:=hback e he hb;omega)];exact h1 e he hb
def xi (n N:Nat):Array Bool:=((List.range N).map fun i=>decide (i<n)).toArray
theorem Jj {listed:Array Bool} (hs:listed.size=ops.size) (h1: ∀ j,j<n->listed.getD j false=true) (h2: ∀ t,n<=t->t<ops.size->listed.getD t true=false):listed=xi n ops.size:=by
 apply Array.ext
 ·simp[xi,hs]
 ·intro i hi _
  simp only[xi,List.getElem_toArray,List.getElem_map,List.getElem_range];rcases Nat.lt_or_ge i n with h|h
  ·have:=h1 i h
   simp[hi] at this;simp[h,this]
  ·have:=h2 i h (by omega)
   simp[hi] at this;simp[show ¬ i<n by omega,this]
theorem Ia {Q:Exit->Act->World->Prop} {K:Act->World->Prop} {a:Act} {w:World} (hB:xh md ops n=true) (hoh: ∀ j,j<n->oh[j]? =ops[j]?) {i:Nat} (hi:i<n) (h:wpOp P oh Q i K a w):wpOp P ops Q i K a w:=by
 obtain ⟨o,ho,_,hg⟩:=oV hB hi;unfold wpOp at*;rw[hoh i hi,ho] at h;rw[ho];simp only at h⊢;rw[CA hoh a.tmps hg] at h;exact h
theorem v5 {Q:Exit->Act->World->Prop} {Q0:Act->Prop} {g:Nat} (hB:xh md ops n=true) (hoh: ∀ j,j<n->oh[j]? =ops[j]?) (hon:oh.size=n) (hn:n<ops.size)
  (hs:Region.sinkB md ops n=true) (hc:Region.chainB md ops n=true)
  (htail: ∀ a w,C w->Q0 a->wpAny P md ops Q g (xi n ops.size) a w):
  ∀ (f:Nat) (lh listed:Array Bool) (a:Act) (w:World),C w->(∀ j d,j<n->lh.getD j d=listed.getD j d)->HeadInv md ops n listed->
   wpAnyQ P md oh C Q0 f lh a->wpAny P md ops Q (f+g) listed a w:=by
 have done: ∀ (lh listed:Array Bool) (a:Act) (w:World),C w->(∀ j d,j<n->lh.getD j d=listed.getD j d)->HeadInv md ops n listed->Region.ready md oh lh=[]->Q0 a->wpAny P md ops Q g listed a w:=by
  intro lh listed a w hC hag inv hr hq;have hall: ∀ j,j<n->listed.getD j false=true:=by
   intro j hj;cases hl:listed.getD j false with
   |true=>rfl
   |false=>
    obtain ⟨i,hi,hin⟩:=Ei hB (by rw[inv.size];omega) j hj (getD_in (by rw[inv.size];omega) hl);rw[ml hB hoh hag hin,hr] at hi;cases hi
  rw[Jj inv.size hall inv.tail];exact htail a w hC hq
 intro f
 induction f with
 |zero=>
  intro lh listed a w hC hag inv h;rw[Nat.zero_add];exact done lh listed a w hC hag inv h.1 h.2
 |succ f ih=>
  intro lh listed a w hC hag inv h;by_cases hr:Region.ready md oh lh=[]
  ·exact zX g (f+1) _ _ _ (done lh listed a w hC hag inv hr (h.1 hr))
  ·obtain ⟨i0,hi0⟩:=List.exists_mem_of_ne_nil _ hr
   have hi0n:i0<n:=by
    obtain ⟨_,o,ho,_⟩:=mem_ready.1 hi0;rw[← hon];exact (Array.getElem?_eq_some_iff.1 ho).1
   have hun:listed.getD i0 true=false:=by rw[← hag i0 true hi0n];exact (mem_ready.1 hi0).1
   rw[show f+1+g=(f+g)+1 by omega];refine ⟨fun h0=> ?_,fun i hi=> ?_⟩
   ·have:=(ml hB hoh hag hi0n).2 hi0
    rw[h0] at this;cases this
   ·have hin:i<n:=by
     rcases Nat.lt_or_ge i n with h'|h'
     ·exact h'
     ·exact absurd hi (tail_waits hs hc hn inv _ i0 rfl hi0n hun i h')
    have h2:=h.2 i ((ml hB hoh hag hin).1 hi);refine Ia hB hoh hin (wpOp_of_qOp hC (fun a' w' hC' hK=>ih _ _ a' w' hC' (fun j d hj=> ?_) (inv.set hi hin) hK) h2);by_cases hij:i=j
    ·subst hij
     have h3:i<listed.size:=by rw[inv.size];omega
     have h4:i<lh.size:=by
      have:=(mem_ready.1 ((ml hB hoh hag hin).1 hi)).1;rcases Nat.lt_or_ge i lh.size with h'|h'
      ·exact h'
      ·simp[Array.getElem?_eq_none h'] at this
     simp[h3,h4]
    ·rw[getD_set_ne d hij,getD_set_ne d hij];exact hag j d hj
theorem th (S:World->Prop) {w0:World} (h:S w0): ∃ (Z:Type) (_:Nonempty Z) (f:Z->World),(∀ z,S (f z))/\ ∀ w',S w'-> ∃ z,w'=f z:=
 ⟨{x:World // S x},⟨⟨w0,h⟩⟩,Subtype.val,fun z=>z.2,fun w' hw=>⟨⟨w',hw⟩,rfl⟩⟩
def Kd (md:Region.Mode) (ops:Array Oper) (n:Nat):Bool:=
 xh md ops n&&decide (n<ops.size)&&Region.sinkB md ops n&&Region.chainB md ops n&&Region.seqB md ops (ops.size-n) n (xi n ops.size)&&Region.lexB md (ops.extract 0 n)
theorem eZ {id:Nat} {Q:Exit->Act->World->Prop} {a:Act} {w:World} {l:List Oper} (C:World->Prop) (n:Nat) (hm:P.follows .mixedOrders=true) (hB:Kd .any l.toArray n=true) (hC:C { w with drawn:=w.drawn+1 })
  (h:wpQuiet P (l.take n).toArray C (fun a'=> ∀ w',C w'->wpList P l.toArray Q (l.drop n) a' w') (l.take n) a):(Code.region id l.toArray true).wp P Q a w:=by
 simp only[Kd,Bool.and_eq_true,decide_eq_true_eq] at hB;obtain ⟨⟨⟨⟨⟨hb,hn⟩,hs⟩,hc⟩,hseq⟩,hlex⟩:=hB;have hn':n<l.length:=by simpa using hn
 have he:l.toArray.extract 0 n=(l.take n).toArray:=by simp
 rw[he] at hlex;simp only[Region.lexB,Bool.and_eq_true] at hlex;have hdl:(l.drop n).length=l.toArray.size-n:=by simp
 have hsz:(l.take n).toArray.size=n:=by simp;omega
 have hoh: ∀ j,j<n->(l.take n).toArray[j]? =l.toArray[j]? :=fun j hj=>by simp[hj]
 have inv0:HeadInv .any l.toArray n (Array.replicate l.toArray.size false):=
  ⟨by simp,fun j oj _ hl=>(by rw[getD_replicate_false] at hl;cases hl),fun t _ ht=>getD_in (by simpa using ht) (getD_replicate_false _ _)⟩
 have hq:=wpAnyQ_lex (C:=C) (md:= .any) hlex.1 (l.take n) 0 (Array.replicate (l.take n).toArray.size false) a (by simp) (by simpa using hlex.2) h;refine wp_region_any hm ?_;have:=v5 (Q:=Q) (g:=l.toArray.size-n) hb hoh hsz hn hs hc (fun a' w' hC' hQ=>by
  have:=wpAny_of_seq (md:= .any) (Q':=Q) (l.drop n) n (xi n l.toArray.size) a' w' (fun j=>by simp[List.getElem?_drop]) (by rw[hdl];exact hseq) (hQ w' hC')
  rwa [hdl] at this) _ _ _ a _ hC (fun j d hj=>by
   have h1:j<l.length:=by omega
   rw[hsz];simp[hj,h1]) inv0 hq
 have e:(l.take n).length+(l.toArray.size-n)=l.toArray.size:=by simp;omega
 rw[e] at this;exact this
end
open Go.RowKit
theorem xj (a ae:Int) (w:World) (h1:0<=a) (h2:a<=1000000) (h3:0<=ae) (h4:ae<=1):
  Calls Tryz.prog 223 #[.agg #[.int .i64 a,.int .i64 ae]] w fun e w'=>e= .returned (.int .i64 (2*a+ae))/\Below w.heap.size w w':=by
 go_enter Tryz.func223,Tryz.ntmps223
 go_wp2
 go_ret
 exact ⟨rfl,(Below.refl _ _).alloc (Nat.le_refl _) _⟩
theorem AV (k:dF) (w:World):
  Calls Tryz.prog 222 #[.agg #[.int .i64 k.a,.int .i64 k.ae,.int .i64 k.b,.int .i64 k.be,.int .i64 k.pt,.int .i64 k.ps]] w fun e w'=>e= .returned (.tuple #[.agg #[.int .i64 k.a,.int .i64 k.ae],.agg #[.int .i64 k.b,.int .i64 k.be]])/\Below w.heap.size w w':=by
 go_enter Tryz.func222,Tryz.ntmps222
 go_wp2
 go_region
 go_wp2
 exact bodyPost_ret (v:= .tuple #[.agg #[.int .i64 k.a,.int .i64 k.ae],.agg #[.int .i64 k.b,.int .i64 k.be]]) (by simp[results,Tryz.results222,go_sem]) rfl ⟨rfl,((((Below.refl _ _).alloc (Nat.le_refl _) _).alloc (by simp) _).alloc (by simp;omega) _).drew⟩
def CC (x y x' y':Int):Bool:=decide (x=x'/\y=y')
theorem EY (x y x' y':Int) (w:World):(binOp .eql 371 (.agg #[.int .i64 x,.int .i64 y]) (.agg #[.int .i64 x',.int .i64 y'])).run Tryz.prog w= .ok (.bool (CC x y x' y')) w:=by
 by_cases h:x=x'<;>by_cases h2:y=y'<;>simp[go_sem,CC,h,h2]
def dB (a ae b be:Int) (k:dF):Bool:=(CC a ae k.a k.ae&&CC b be k.b k.be)||(CC a ae k.b k.be&&CC b be k.a k.ae)
theorem IM (ls:List dF) (k:Nat) (h:k<ls.length) (p:dF->Bool):(ls.take (k+1)).any p=((ls.take k).any p||p ls[k]):=by
 rw[List.take_succ_eq_append_getElem h,List.any_append];simp
structure Ql (w x:World) (a ae b be:Int) (A:Option Addr) (ls:List dF):Prop where
 ba:hY x w.heap.size [.int .i64 a,.int .i64 ae]
 bb:hY x (w.heap.size+1) [.int .i64 b,.int .i64 be]
 rd:Gb 6 lf x A ls
 bel:Below w.heap.size w x
theorem Ql.call {w x y:World} {a ae b be:Int} {A:Option Addr} {ls:List dF} (h:Ql w x a ae b be A ls) (hb:Below x.heap.size x y):Ql w y a ae b be A ls:=
 ⟨h.ba.below hb,h.bb.below hb,h.rd.below hb,h.bel.trans (hb.mono h.bel.size)⟩
theorem Du (A:Option Addr) (c:Nat) (ls:List dF) (a ae b be:Int) (w:World) (hR:Gb 6 lf w A ls) (hl:ls.length<=9223372036854775807):
  Calls Tryz.prog 224 #[.slice A ls.length c,.agg #[.int .i64 a,.int .i64 ae],.agg #[.int .i64 b,.int .i64 be]] w fun e w'=>e= .returned (.bool (ls.any (dB a ae b be)))/\Below w.heap.size w w':=by
 have hb0:Below w.heap.size w (w.alloc (.cells #[.int .i64 a,.int .i64 ae] 371)):=(Below.refl _ _).alloc (Nat.le_refl _) _;have hb1:=(Below.refl _ (w.alloc (.cells #[.int .i64 a,.int .i64 ae] 371))).alloc (Nat.le_refl _) (.cells #[.int .i64 b,.int .i64 be] 371);have HI:Hid (Ql w ((w.alloc (.cells #[.int .i64 a,.int .i64 ae] 371)).alloc (.cells #[.int .i64 b,.int .i64 be] 371)) a ae b be A ls):=Lib.hid
  ⟨(hY.new w [.int .i64 a,.int .i64 ae] 371).below hb1,(by have:=hY.new (w.alloc (.cells #[.int .i64 a,.int .i64 ae] 371)) [.int .i64 b,.int .i64 be] 371;simpa using this),(hR.below hb0).below hb1,hb0.trans (hb1.mono hb0.size)⟩
 clear hR hb0 hb1;have heq:=EY
 go_enter Tryz.func224,Tryz.ntmps224
 go_wp2
 go_loopw [13] (fun i wr=> ∃ k:Nat,k<=ls.length/\i= .int .i64 k/\Hid ((ls.take k).any (dB a ae b be)=false)/\Hid (Ql w wr a ae b be A ls)) (fun i _=>ls.length-(intOf i).toNat)
 case atStart=>exact ⟨0,by omega,rfl,Lib.hid rfl,HI⟩
 case round=>
  obtain ⟨k,hk,rfl,Hk,HI2⟩:=hrel;by_cases hlt:k<ls.length
  ·have Hsn:=Lib.hid (IM ls k hlt (dB a ae b be))
   obtain ⟨bb,off,rfl,hbl,hc⟩:=HI2.out.rd k hlt;obtain ⟨j,Hj⟩: ∃ j,Hid (ls[k]=j):=⟨_,Lib.hid rfl⟩;rw[Hj.out] at hc Hsn;have q0:=hc 0 _ rfl;have q1:=hc 1 _ rfl;have q2:=hc 2 _ rfl;have q3:=hc 3 _ rfl;have q4:=hc 4 _ rfl;have q5:=hc 5 _ rfl;rw[Nat.add_zero] at q0;clear hc;have hba:Below wr.heap.size wr (wr.alloc (.cells #[.int .i64 j.a,.int .i64 j.ae,.int .i64 j.b,.int .i64 j.be,.int .i64 j.pt,.int .i64 j.ps] 241)):=(Below.refl _ _).alloc (Nat.le_refl _) _;have HI3:=Lib.hid (HI2.out.call hba);clear HI2 hba
   go_wp2_with fail
   refine (AV j _).mono ?_;rintro e w2 ⟨rfl,hb2⟩;have HI4:=Lib.hid (HI3.out.call hb2);clear q0 q1 q2 q3 q4 q5 hb2 HI3 hbl;have c0:=HI4.out.ba.2 0 _ rfl;have c1:=HI4.out.ba.2 1 _ rfl;have d0:=HI4.out.bb.2 0 _ rfl;have d1:=HI4.out.bb.2 1 _ rfl;have g1:=HI4.out.ba.1;have g2:=HI4.out.bb.1;have hbn:Below w2.heap.size w2 ((w2.alloc (.cells #[.int .i64 j.a,.int .i64 j.ae] 371)).alloc (.cells #[.int .i64 j.b,.int .i64 j.be] 371)):=((Below.refl _ _).alloc (Nat.le_refl _) _).alloc (by simp) _;have HI5:=Lib.hid (HI4.out.call hbn);clear hbn;cases h1:CC a ae j.a j.ae
   ·skip
    cases h3:CC a ae j.b j.be
    ·skip
     have HJ:Hid (dB a ae b be j=false):=Lib.hid (by simp[dB,h1,h3])
     go_wp2
     go_roundw
     case rel=>exact ⟨k+1,by omega,by go_num,Lib.hid (by rw[Hsn.out,Hk.out,HJ.out];rfl),HI5⟩
     case measure=>simp[intOf];omega
    ·cases h4:CC b be j.a j.ae
     ·skip
      have HJ:Hid (dB a ae b be j=false):=Lib.hid (by simp[dB,h1,h3,h4])
      go_wp2
      go_roundw
      case rel=>exact ⟨k+1,by omega,by go_num,Lib.hid (by rw[Hsn.out,Hk.out,HJ.out];rfl),HI5⟩
      case measure=>simp[intOf];omega
     ·skip
      have HJ:Hid (dB a ae b be j=true):=Lib.hid (by simp[dB,h1,h3,h4]);have HA:Hid (ls.any (dB a ae b be)=true):=Lib.hid (List.any_eq_true.2 ⟨j,by rw[← Hj.out];exact List.getElem_mem hlt,HJ.out⟩)
      go_wp2
      go_ret
      exact ⟨aO HA.out.symm,HI5.out.bel⟩
   ·cases h2:CC b be j.b j.be
    ·skip
     cases h3:CC a ae j.b j.be
     ·skip
      have HJ:Hid (dB a ae b be j=false):=Lib.hid (by simp[dB,h1,h2,h3])
      go_wp2
      go_roundw
      case rel=>exact ⟨k+1,by omega,by go_num,Lib.hid (by rw[Hsn.out,Hk.out,HJ.out];rfl),HI5⟩
      case measure=>simp[intOf];omega
     ·cases h4:CC b be j.a j.ae
      ·skip
       have HJ:Hid (dB a ae b be j=false):=Lib.hid (by simp[dB,h1,h2,h3,h4])
       go_wp2
       go_roundw
       case rel=>exact ⟨k+1,by omega,by go_num,Lib.hid (by rw[Hsn.out,Hk.out,HJ.out];rfl),HI5⟩
       case measure=>simp[intOf];omega
      ·skip
       have HJ:Hid (dB a ae b be j=true):=Lib.hid (by simp[dB,h1,h2,h3,h4]);have HA:Hid (ls.any (dB a ae b be)=true):=Lib.hid (List.any_eq_true.2 ⟨j,by rw[← Hj.out];exact List.getElem_mem hlt,HJ.out⟩)
       go_wp2
       go_ret
       exact ⟨aO HA.out.symm,HI5.out.bel⟩
    ·skip
     have HJ:Hid (dB a ae b be j=true):=Lib.hid (by simp[dB,h1,h2]);have HA:Hid (ls.any (dB a ae b be)=true):=Lib.hid (List.any_eq_true.2 ⟨j,by rw[← Hj.out];exact List.getElem_mem hlt,HJ.out⟩)
     go_wp2
     go_ret
     exact ⟨aO HA.out.symm,HI5.out.bel⟩
  ·have HA:Hid (ls.any (dB a ae b be)=false):=Lib.hid (by have:=Hk.out;rwa [List.take_of_length_le (by omega)] at this)
   go_wp2
   go_ret
   exact ⟨aO HA.out.symm,HI2.out.bel⟩
end Go.Proofs.YtjkeeocnekggfaaGreat
namespace Go.Proofs.YtjkeeocnekggfaaGreat
open Go.RowKit
theorem Jp {k j:dF}:pX k [j]=decide (k.pt≠ -1/\k.pt=j.pt/\k.ps≠j.ps):=rfl
theorem A0 (k:dF) (A:Option Addr) (c:Nat) (ls:List dF) (w:World) (hR:Gb 6 lf w A ls) (hl:ls.length<=9223372036854775807):
  Calls Tryz.prog 225 #[.agg #[.int .i64 k.a,.int .i64 k.ae,.int .i64 k.b,.int .i64 k.be,.int .i64 k.pt,.int .i64 k.ps],.slice A ls.length c] w fun e w'=>e= .returned (.bool (pX k ls))/\Below w.heap.size w w':=by
 obtain ⟨a,ae,b,be,pt,ps⟩:=k;dsimp only
 match ls,hR,hl with
 |[],_,_=>
  go_enter Tryz.func225,Tryz.ntmps225
  go_wp2
  go_ret
  exact ⟨rfl,(Below.refl _ _).alloc (Nat.le_refl _) _⟩
 |i::j::r,_,hl=>
  have HF:Hid (pX ⟨a,ae,b,be,pt,ps⟩ (i::j::r)=false):=Lib.hid rfl;obtain ⟨n,Hn⟩: ∃ n,Hid ((i::j::r).length=n):=⟨_,Lib.hid rfl⟩;rw[HF.out,Hn.out];have hn:2<=n:=by rw[← Hn.out];simp
  have e0:((n:Int)==0)=false:=by simp;omega
  have e1:((n:Int)==1)=false:=by simp;omega
  clear hl
  go_enter Tryz.func225,Tryz.ntmps225
  go_wp2
  go_quiet (fail)
  go_wp2
  go_ret
  exact ⟨rfl,gu ((Below.refl _ _).alloc (Nat.le_refl _) _) _⟩
 |[j],hR,_=>
  obtain ⟨ja,jae,jb,jbe,jpt,jps⟩:=j;obtain ⟨bb,off,rfl,hbl,hc⟩:=hR 0 (by simp);have q4:=hc 4 _ rfl;have q5:=hc 5 _ rfl;simp only[Nat.zero_mul,Nat.add_zero] at q4 q5;clear hc hR;rw[Jp];dsimp only;by_cases h1:pt= -1
  ·rw[decide_eq_false (by omega)]
   have f1:(pt != -1)=false:=by rw[h1];rfl
   clear h1
   go_enter Tryz.func225,Tryz.ntmps225
   go_wp2
   go_quiet (fail)
   go_wp2
   go_ret
   exact ⟨rfl,gu ((Below.refl _ _).alloc (Nat.le_refl _) _) _⟩
  ·have f1:(pt != -1)=true:=by simpa using h1
   by_cases h2:pt=jpt
   ·have f2:(pt==jpt)=true:=by simpa using h2
    by_cases h3:ps=jps
    ·rw[decide_eq_false (by omega)]
     have f3:(ps != jps)=false:=by simpa using h3
     clear h1 h2 h3
     go_enter Tryz.func225,Tryz.ntmps225
     go_wp2
     go_quiet (fail)
     go_wp2
     go_ret
     exact ⟨rfl,gu ((Below.refl _ _).alloc (Nat.le_refl _) _) _⟩
    ·rw[decide_eq_true (by omega)]
     have f3:(ps != jps)=true:=by simpa using h3
     clear h1 h2 h3
     go_enter Tryz.func225,Tryz.ntmps225
     go_wp2
     go_quiet (fail)
     go_wp2
     go_ret
     exact ⟨rfl,gu ((Below.refl _ _).alloc (Nat.le_refl _) _) _⟩
   ·rw[decide_eq_false (by omega)]
    have f2:(pt==jpt)=false:=by simpa using h2
    clear h1 h2
    go_enter Tryz.func225,Tryz.ntmps225
    go_wp2
    go_quiet (fail)
    go_wp2
    go_ret
    exact ⟨rfl,gu ((Below.refl _ _).alloc (Nat.le_refl _) _) _⟩
end Go.Proofs.YtjkeeocnekggfaaGreat
namespace Go.Proofs.YtjkeeocnekggfaaGreat
open Go.RowKit
theorem bw {nsec npt:Nat} {k:dF} (h: ¬ (0<=k.a/\k.a<nsec/\0<=k.b/\k.b<nsec/\0<=k.ae/\k.ae<=1/\0<=k.be/\k.be<=1/\ -1<=k.pt/\k.pt<npt/\0<=k.ps/\k.ps<=1/\(k.pt≠ -1\/k.ps=0))):gv nsec npt k=false:=decide_eq_false h
theorem fF {nsec npt:Nat} {k:dF} (h:0<=k.a/\k.a<nsec/\0<=k.b/\k.b<nsec/\0<=k.ae/\k.ae<=1/\0<=k.be/\k.be<=1/\ -1<=k.pt/\k.pt<npt/\0<=k.ps/\k.ps<=1/\(k.pt≠ -1\/k.ps=0)):gv nsec npt k=true:=decide_eq_true h
theorem Dh (n:Int):((n==0)=true/\n=0)\/((n==0)=false/\(n==1)=true/\n=1)\/((n==0)=false/\(n==1)=false/\n≠0/\n≠1):=by
 by_cases h:n=0
 ·left;exact ⟨by rw[h];rfl,h⟩
 ·by_cases h1:n=1
  ·right;left;exact ⟨by simpa using h,by rw[h1];rfl,h1⟩
  ·right;right;exact ⟨by simpa using h,by simpa using h1,h,h1⟩
theorem MD (n:Int):((n != -1)=true/\n≠ -1)\/((n != -1)=false/\n= -1):=by
 by_cases h:n= -1
 ·right;exact ⟨by rw[h];rfl,h⟩
 ·left;exact ⟨by simpa using h,h⟩
set_option maxHeartbeats 2000000 in
set_option maxRecDepth 100000 in
theorem s7 (V:CD) (L:bJ) (k:dF) (w:World):
  Calls Tryz.prog 221 #[.agg #[.slice V.A1 L.sts.length V.c1,.slice V.A2 L.pts.length V.c2,.slice V.A3 L.secs.length V.c3,.slice V.A4 L.lnks.length V.c4],.agg #[.int .i64 k.a,.int .i64 k.ae,.int .i64 k.b,.int .i64 k.be,.int .i64 k.pt,.int .i64 k.ps]] w fun e w'=>e= .returned (.bool (gv L.secs.length L.pts.length k))/\Below w.heap.size w w':=by
 obtain ⟨a,ae,b,be,pt,ps⟩:=k;dsimp only;by_cases h1:0<=a
 rotate_left
 ·have h1':decide (0<=a)=false:=decide_eq_false h1
  have HE:=Lib.hid (bw (nsec:=L.secs.length) (npt:=L.pts.length) (k:=⟨a,ae,b,be,pt,ps⟩) (by dsimp only;omega))
  (go_enter Tryz.func221,Tryz.ntmps221);simp only[List.append_eq,List.cons_append,List.nil_append]
  go_wp2
  go_ret
  exact ⟨aO HE.out.symm,((Below.refl _ _).alloc (Nat.le_refl _) _).alloc (by simp) _⟩
 ·skip
  by_cases h2:a<L.secs.length
  rotate_left
  ·have h2':decide (a<(L.secs.length:Int))=false:=decide_eq_false h2
   have HE:=Lib.hid (bw (nsec:=L.secs.length) (npt:=L.pts.length) (k:=⟨a,ae,b,be,pt,ps⟩) (by dsimp only;omega))
   (go_enter Tryz.func221,Tryz.ntmps221);simp only[List.append_eq,List.cons_append,List.nil_append]
   go_wp2
   go_ret
   exact ⟨aO HE.out.symm,((Below.refl _ _).alloc (Nat.le_refl _) _).alloc (by simp) _⟩
  ·skip
   by_cases h3:0<=b
   rotate_left
   ·have h3':decide (0<=b)=false:=decide_eq_false h3
    have HE:=Lib.hid (bw (nsec:=L.secs.length) (npt:=L.pts.length) (k:=⟨a,ae,b,be,pt,ps⟩) (by dsimp only;omega))
    (go_enter Tryz.func221,Tryz.ntmps221);simp only[List.append_eq,List.cons_append,List.nil_append]
    go_wp2
    go_ret
    exact ⟨aO HE.out.symm,((Below.refl _ _).alloc (Nat.le_refl _) _).alloc (by simp) _⟩
   ·skip
    by_cases h4:b<L.secs.length
    rotate_left
    ·have h4':decide (b<(L.secs.length:Int))=false:=decide_eq_false h4
     have HE:=Lib.hid (bw (nsec:=L.secs.length) (npt:=L.pts.length) (k:=⟨a,ae,b,be,pt,ps⟩) (by dsimp only;omega))
     (go_enter Tryz.func221,Tryz.ntmps221);simp only[List.append_eq,List.cons_append,List.nil_append]
     go_wp2
     go_ret
     exact ⟨aO HE.out.symm,((Below.refl _ _).alloc (Nat.le_refl _) _).alloc (by simp) _⟩
    ·skip
     rcases Dh ae with ⟨xae,eae⟩|⟨xae,yae,eae⟩|⟨xae,yae,eae,fae⟩
     ·skip
      rcases Dh be with ⟨xbe,ebe⟩|⟨xbe,ybe,ebe⟩|⟨xbe,ybe,ebe,fbe⟩
      ·skip
       by_cases h7: -1<=pt
       rotate_left
       ·have h7':decide (-1<=pt)=false:=decide_eq_false h7
        have HE:=Lib.hid (bw (nsec:=L.secs.length) (npt:=L.pts.length) (k:=⟨a,ae,b,be,pt,ps⟩) (by dsimp only;omega));clear eae ebe
        (go_enter Tryz.func221,Tryz.ntmps221);simp only[List.append_eq,List.cons_append,List.nil_append]
        go_wp2
        go_ret
        exact ⟨aO HE.out.symm,((Below.refl _ _).alloc (Nat.le_refl _) _).alloc (by simp) _⟩
       ·skip
        by_cases h8:pt<L.pts.length
        rotate_left
        ·have h8':decide (pt<(L.pts.length:Int))=false:=decide_eq_false h8
         have HE:=Lib.hid (bw (nsec:=L.secs.length) (npt:=L.pts.length) (k:=⟨a,ae,b,be,pt,ps⟩) (by dsimp only;omega));clear eae ebe
         (go_enter Tryz.func221,Tryz.ntmps221);simp only[List.append_eq,List.cons_append,List.nil_append]
         go_wp2
         go_ret
         exact ⟨aO HE.out.symm,((Below.refl _ _).alloc (Nat.le_refl _) _).alloc (by simp) _⟩
        ·skip
         rcases Dh ps with ⟨xps,eps⟩|⟨xps,yps,eps⟩|⟨xps,yps,eps,fps⟩
         ·skip
          have HE:=Lib.hid (fF (nsec:=L.secs.length) (npt:=L.pts.length) (k:=⟨a,ae,b,be,pt,ps⟩) (by dsimp only;omega));clear eae ebe eps
          (go_enter Tryz.func221,Tryz.ntmps221);simp only[List.append_eq,List.cons_append,List.nil_append]
          go_wp2
          go_ret
          exact ⟨aO HE.out.symm,((Below.refl _ _).alloc (Nat.le_refl _) _).alloc (by simp) _⟩
         ·rcases MD pt with ⟨xpt,ept⟩|⟨xpt,ept⟩
          ·skip
           have HE:=Lib.hid (fF (nsec:=L.secs.length) (npt:=L.pts.length) (k:=⟨a,ae,b,be,pt,ps⟩) (by dsimp only;omega));clear eae ebe eps ept
           (go_enter Tryz.func221,Tryz.ntmps221);simp only[List.append_eq,List.cons_append,List.nil_append]
           go_wp2
           go_ret
           exact ⟨aO HE.out.symm,((Below.refl _ _).alloc (Nat.le_refl _) _).alloc (by simp) _⟩
          ·skip
           have HE:=Lib.hid (bw (nsec:=L.secs.length) (npt:=L.pts.length) (k:=⟨a,ae,b,be,pt,ps⟩) (by dsimp only;omega));clear eae ebe eps ept
           (go_enter Tryz.func221,Tryz.ntmps221);simp only[List.append_eq,List.cons_append,List.nil_append]
           go_wp2
           go_ret
           exact ⟨aO HE.out.symm,((Below.refl _ _).alloc (Nat.le_refl _) _).alloc (by simp) _⟩
         ·skip
          have HE:=Lib.hid (bw (nsec:=L.secs.length) (npt:=L.pts.length) (k:=⟨a,ae,b,be,pt,ps⟩) (by dsimp only;omega));clear eae ebe eps fps
          (go_enter Tryz.func221,Tryz.ntmps221);simp only[List.append_eq,List.cons_append,List.nil_append]
          go_wp2
          go_ret
          exact ⟨aO HE.out.symm,((Below.refl _ _).alloc (Nat.le_refl _) _).alloc (by simp) _⟩
      ·skip
       by_cases h7: -1<=pt
       rotate_left
       ·have h7':decide (-1<=pt)=false:=decide_eq_false h7
        have HE:=Lib.hid (bw (nsec:=L.secs.length) (npt:=L.pts.length) (k:=⟨a,ae,b,be,pt,ps⟩) (by dsimp only;omega));clear eae ebe
        (go_enter Tryz.func221,Tryz.ntmps221);simp only[List.append_eq,List.cons_append,List.nil_append]
        go_wp2
        go_ret
        exact ⟨aO HE.out.symm,((Below.refl _ _).alloc (Nat.le_refl _) _).alloc (by simp) _⟩
       ·skip
        by_cases h8:pt<L.pts.length
        rotate_left
        ·have h8':decide (pt<(L.pts.length:Int))=false:=decide_eq_false h8
         have HE:=Lib.hid (bw (nsec:=L.secs.length) (npt:=L.pts.length) (k:=⟨a,ae,b,be,pt,ps⟩) (by dsimp only;omega));clear eae ebe
         (go_enter Tryz.func221,Tryz.ntmps221);simp only[List.append_eq,List.cons_append,List.nil_append]
         go_wp2
         go_ret
         exact ⟨aO HE.out.symm,((Below.refl _ _).alloc (Nat.le_refl _) _).alloc (by simp) _⟩
        ·skip
         rcases Dh ps with ⟨xps,eps⟩|⟨xps,yps,eps⟩|⟨xps,yps,eps,fps⟩
         ·skip
          have HE:=Lib.hid (fF (nsec:=L.secs.length) (npt:=L.pts.length) (k:=⟨a,ae,b,be,pt,ps⟩) (by dsimp only;omega));clear eae ebe eps
          (go_enter Tryz.func221,Tryz.ntmps221);simp only[List.append_eq,List.cons_append,List.nil_append]
          go_wp2
          go_ret
          exact ⟨aO HE.out.symm,((Below.refl _ _).alloc (Nat.le_refl _) _).alloc (by simp) _⟩
         ·rcases MD pt with ⟨xpt,ept⟩|⟨xpt,ept⟩
          ·skip
           have HE:=Lib.hid (fF (nsec:=L.secs.length) (npt:=L.pts.length) (k:=⟨a,ae,b,be,pt,ps⟩) (by dsimp only;omega));clear eae ebe eps ept
           (go_enter Tryz.func221,Tryz.ntmps221);simp only[List.append_eq,List.cons_append,List.nil_append]
           go_wp2
           go_ret
           exact ⟨aO HE.out.symm,((Below.refl _ _).alloc (Nat.le_refl _) _).alloc (by simp) _⟩
          ·skip
           have HE:=Lib.hid (bw (nsec:=L.secs.length) (npt:=L.pts.length) (k:=⟨a,ae,b,be,pt,ps⟩) (by dsimp only;omega));clear eae ebe eps ept
           (go_enter Tryz.func221,Tryz.ntmps221);simp only[List.append_eq,List.cons_append,List.nil_append]
           go_wp2
           go_ret
           exact ⟨aO HE.out.symm,((Below.refl _ _).alloc (Nat.le_refl _) _).alloc (by simp) _⟩
         ·skip
          have HE:=Lib.hid (bw (nsec:=L.secs.length) (npt:=L.pts.length) (k:=⟨a,ae,b,be,pt,ps⟩) (by dsimp only;omega));clear eae ebe eps fps
          (go_enter Tryz.func221,Tryz.ntmps221);simp only[List.append_eq,List.cons_append,List.nil_append]
          go_wp2
          go_ret
          exact ⟨aO HE.out.symm,((Below.refl _ _).alloc (Nat.le_refl _) _).alloc (by simp) _⟩
      ·skip
       have HE:=Lib.hid (bw (nsec:=L.secs.length) (npt:=L.pts.length) (k:=⟨a,ae,b,be,pt,ps⟩) (by dsimp only;omega));clear eae ebe fbe
       (go_enter Tryz.func221,Tryz.ntmps221);simp only[List.append_eq,List.cons_append,List.nil_append]
       go_wp2
       go_ret
       exact ⟨aO HE.out.symm,((Below.refl _ _).alloc (Nat.le_refl _) _).alloc (by simp) _⟩
     ·skip
      rcases Dh be with ⟨xbe,ebe⟩|⟨xbe,ybe,ebe⟩|⟨xbe,ybe,ebe,fbe⟩
      ·skip
       by_cases h7: -1<=pt
       rotate_left
       ·have h7':decide (-1<=pt)=false:=decide_eq_false h7
        have HE:=Lib.hid (bw (nsec:=L.secs.length) (npt:=L.pts.length) (k:=⟨a,ae,b,be,pt,ps⟩) (by dsimp only;omega));clear eae ebe
        (go_enter Tryz.func221,Tryz.ntmps221);simp only[List.append_eq,List.cons_append,List.nil_append]
        go_wp2
        go_ret
        exact ⟨aO HE.out.symm,((Below.refl _ _).alloc (Nat.le_refl _) _).alloc (by simp) _⟩
       ·skip
        by_cases h8:pt<L.pts.length
        rotate_left
        ·have h8':decide (pt<(L.pts.length:Int))=false:=decide_eq_false h8
         have HE:=Lib.hid (bw (nsec:=L.secs.length) (npt:=L.pts.length) (k:=⟨a,ae,b,be,pt,ps⟩) (by dsimp only;omega));clear eae ebe
         (go_enter Tryz.func221,Tryz.ntmps221);simp only[List.append_eq,List.cons_append,List.nil_append]
         go_wp2
         go_ret
         exact ⟨aO HE.out.symm,((Below.refl _ _).alloc (Nat.le_refl _) _).alloc (by simp) _⟩
        ·skip
         rcases Dh ps with ⟨xps,eps⟩|⟨xps,yps,eps⟩|⟨xps,yps,eps,fps⟩
         ·skip
          have HE:=Lib.hid (fF (nsec:=L.secs.length) (npt:=L.pts.length) (k:=⟨a,ae,b,be,pt,ps⟩) (by dsimp only;omega));clear eae ebe eps
          (go_enter Tryz.func221,Tryz.ntmps221);simp only[List.append_eq,List.cons_append,List.nil_append]
          go_wp2
          go_ret
          exact ⟨aO HE.out.symm,((Below.refl _ _).alloc (Nat.le_refl _) _).alloc (by simp) _⟩
         ·rcases MD pt with ⟨xpt,ept⟩|⟨xpt,ept⟩
          ·skip
           have HE:=Lib.hid (fF (nsec:=L.secs.length) (npt:=L.pts.length) (k:=⟨a,ae,b,be,pt,ps⟩) (by dsimp only;omega));clear eae ebe eps ept
           (go_enter Tryz.func221,Tryz.ntmps221);simp only[List.append_eq,List.cons_append,List.nil_append]
           go_wp2
           go_ret
           exact ⟨aO HE.out.symm,((Below.refl _ _).alloc (Nat.le_refl _) _).alloc (by simp) _⟩
          ·skip
           have HE:=Lib.hid (bw (nsec:=L.secs.length) (npt:=L.pts.length) (k:=⟨a,ae,b,be,pt,ps⟩) (by dsimp only;omega));clear eae ebe eps ept
           (go_enter Tryz.func221,Tryz.ntmps221);simp only[List.append_eq,List.cons_append,List.nil_append]
           go_wp2
           go_ret
           exact ⟨aO HE.out.symm,((Below.refl _ _).alloc (Nat.le_refl _) _).alloc (by simp) _⟩
         ·skip
          have HE:=Lib.hid (bw (nsec:=L.secs.length) (npt:=L.pts.length) (k:=⟨a,ae,b,be,pt,ps⟩) (by dsimp only;omega));clear eae ebe eps fps
          (go_enter Tryz.func221,Tryz.ntmps221);simp only[List.append_eq,List.cons_append,List.nil_append]
          go_wp2
          go_ret
          exact ⟨aO HE.out.symm,((Below.refl _ _).alloc (Nat.le_refl _) _).alloc (by simp) _⟩
      ·skip
       by_cases h7: -1<=pt
       rotate_left
       ·have h7':decide (-1<=pt)=false:=decide_eq_false h7
        have HE:=Lib.hid (bw (nsec:=L.secs.length) (npt:=L.pts.length) (k:=⟨a,ae,b,be,pt,ps⟩) (by dsimp only;omega));clear eae ebe
        (go_enter Tryz.func221,Tryz.ntmps221);simp only[List.append_eq,List.cons_append,List.nil_append]
        go_wp2
        go_ret
        exact ⟨aO HE.out.symm,((Below.refl _ _).alloc (Nat.le_refl _) _).alloc (by simp) _⟩
       ·skip
        by_cases h8:pt<L.pts.length
        rotate_left
        ·have h8':decide (pt<(L.pts.length:Int))=false:=decide_eq_false h8
         have HE:=Lib.hid (bw (nsec:=L.secs.length) (npt:=L.pts.length) (k:=⟨a,ae,b,be,pt,ps⟩) (by dsimp only;omega));clear eae ebe
         (go_enter Tryz.func221,Tryz.ntmps221);simp only[List.append_eq,List.cons_append,List.nil_append]
         go_wp2
         go_ret
         exact ⟨aO HE.out.symm,((Below.refl _ _).alloc (Nat.le_refl _) _).alloc (by simp) _⟩
        ·skip
         rcases Dh ps with ⟨xps,eps⟩|⟨xps,yps,eps⟩|⟨xps,yps,eps,fps⟩
         ·skip
          have HE:=Lib.hid (fF (nsec:=L.secs.length) (npt:=L.pts.length) (k:=⟨a,ae,b,be,pt,ps⟩) (by dsimp only;omega));clear eae ebe eps
          (go_enter Tryz.func221,Tryz.ntmps221);simp only[List.append_eq,List.cons_append,List.nil_append]
          go_wp2
          go_ret
          exact ⟨aO HE.out.symm,((Below.refl _ _).alloc (Nat.le_refl _) _).alloc (by simp) _⟩
         ·rcases MD pt with ⟨xpt,ept⟩|⟨xpt,ept⟩
          ·skip
           have HE:=Lib.hid (fF (nsec:=L.secs.length) (npt:=L.pts.length) (k:=⟨a,ae,b,be,pt,ps⟩) (by dsimp only;omega));clear eae ebe eps ept
           (go_enter Tryz.func221,Tryz.ntmps221);simp only[List.append_eq,List.cons_append,List.nil_append]
           go_wp2
           go_ret
           exact ⟨aO HE.out.symm,((Below.refl _ _).alloc (Nat.le_refl _) _).alloc (by simp) _⟩
          ·skip
           have HE:=Lib.hid (bw (nsec:=L.secs.length) (npt:=L.pts.length) (k:=⟨a,ae,b,be,pt,ps⟩) (by dsimp only;omega));clear eae ebe eps ept
           (go_enter Tryz.func221,Tryz.ntmps221);simp only[List.append_eq,List.cons_append,List.nil_append]
           go_wp2
           go_ret
           exact ⟨aO HE.out.symm,((Below.refl _ _).alloc (Nat.le_refl _) _).alloc (by simp) _⟩
         ·skip
          have HE:=Lib.hid (bw (nsec:=L.secs.length) (npt:=L.pts.length) (k:=⟨a,ae,b,be,pt,ps⟩) (by dsimp only;omega));clear eae ebe eps fps
          (go_enter Tryz.func221,Tryz.ntmps221);simp only[List.append_eq,List.cons_append,List.nil_append]
          go_wp2
          go_ret
          exact ⟨aO HE.out.symm,((Below.refl _ _).alloc (Nat.le_refl _) _).alloc (by simp) _⟩
      ·skip
       have HE:=Lib.hid (bw (nsec:=L.secs.length) (npt:=L.pts.length) (k:=⟨a,ae,b,be,pt,ps⟩) (by dsimp only;omega));clear eae ebe fbe
       (go_enter Tryz.func221,Tryz.ntmps221);simp only[List.append_eq,List.cons_append,List.nil_append]
       go_wp2
       go_ret
       exact ⟨aO HE.out.symm,((Below.refl _ _).alloc (Nat.le_refl _) _).alloc (by simp) _⟩
     ·skip
      have HE:=Lib.hid (bw (nsec:=L.secs.length) (npt:=L.pts.length) (k:=⟨a,ae,b,be,pt,ps⟩) (by dsimp only;omega));clear eae fae
      (go_enter Tryz.func221,Tryz.ntmps221);simp only[List.append_eq,List.cons_append,List.nil_append]
      go_wp2
      go_ret
      exact ⟨aO HE.out.symm,((Below.refl _ _).alloc (Nat.le_refl _) _).alloc (by simp) _⟩
end Go.Proofs.YtjkeeocnekggfaaGreat
