import Derived.Test.YtjkeeocnekggfaaGreatPYD
set_option linter.defProp false
set_option linter.unusedVariables false
set_option linter.unusedSimpArgs false
set_option maxRecDepth 4000
set_option maxHeartbeats 4000000
open And renaming intro->acP
open Bool renaming and_eq_true->abt,or_eq_true->abz,false_and->acU,or_false->acY,eq_false_or_eq_true->acZ,true_and->adT,or_eq_false_iff->aea,eq_false_iff->aei,eq_iff_iff->aew,or_true->ae4
open ByteArray renaming toList->acL,ext->aed,data_extract->afn,data_append->afo
open Classical renaming not_not->acR,byContradiction->adC,not_and_iff_not_or_not->afm
open Go.ByteArray renaming toList_eq->ac2
open Go.Lib renaming hid->acA
open Go.Proofs.Tryz renaming prog->abg,func68->adF,func94->adH,func63->ad8,func43->ad9,underlying210->aeg,func100->ae6,func192->ae7,func138->afa,func139->afb,func98->afd,func76->afe,func78->aff,func97->afh,func34->afi,func33->afj,func13->afk
open Int renaming toNat_natCast->abh
open List renaming range->abi,length_set->abj,length_take->abk,mem_cons_self->abq,length_map->abr,ext_getElem->abw,mem_range->aby,set_set->abA,take_succ_eq_append_getElem->abO,length_drop->abP,getElem_map->abV,set_cons_zero->ab2,set_cons_succ->ab5,take_of_length_le->aca,getElem_range->acz,mem_iff_getElem->acB,getElem_mem->acC,map_append->acD,mem_cons_of_mem->acE,all_eq_true->acH,flatMap_append->acI,range_succ->acJ,getElem_take->acM,any_eq_true->acN,not_mem_nil->acO,mem_cons->acQ,length_append->acT,length_range->acV,getElem_set->ac0,mem_append->ac1,getElem?_eq_none->ac7,foldl_append->adx,getElem?_map->ady,flatMap_cons->adA,take_length->adB,length_cons->adE,eq_nil_of_length_eq_zero->adG,nil_append->adI,find?_cons->adJ,replicate->adK,mem_of_find?_eq_some->adL,any_cons->adQ,getElem?_take_of_lt->adV,mem_map->adX,filter_eq_nil_iff->ad1,getElem_replicate->ad2,take_append_drop->ad5,map_congr_left->aeb,mem_singleton->aec,getElem?_take->aef,append_assoc->aeh,cons_append->aes,foldl_cons->aet,nodup_cons->aeC,length_nil->aeD,take_take->aeE,take_zero->aeZ,map_cons->ae2,any_nil->ae3,flatMap->ae9
open Nat renaming zero_le->acG,le_trans->acS,le_refl->acX,not_lt_zero->ac8,zero_add->afg,sub_self->afl
open Option renaming getD_some->acF,isSome_none->ada,isSome_some->adw
open UInt8 renaming toNat_lt->acK
namespace Go.Proofs.YtjkeeocnekggfaaGreat
def aa7:=@if_neg
def aa8:=@if_pos
namespace Av
variable {H:SH} {at_:Int} {cs:List rZ} {f:Nat->Int} {fn:Func} {j:Nat} {n:Nat} {tr:List (List iP)} {α:Type}
def C0 {L:cg} {st:List bX} {ov l sp ac br:Int} (h:de L ⟨st,ov⟩ l sp ac br=0) {a m:Nat} {o:Int} (h0:0<=o) (ho:o<=2) (hm:o+2<=m) (hb:a+m<=st.length) (hc:((a+m:Nat):Int)-o<=st.length-ov):de L ⟨(st.drop a).take m,o⟩ l sp ac br=0:=by
 have⟨h1,h2,h3⟩:=nM h;have hr:=dq (gB h1);have g1:=hr.rS;have g2:=hr.two;have g3:=hr.len;simp only at g1 g2 g3;have jn:=yG hr;simp only at jn;have hpl:((st.drop a).take m).length=m:=by rw[abk,abP];omega
 have hpg: ∀ i,i<m->((st.drop a).take m).getD i bm=st.getD (a+i) bm:=fun i hi=>H8 st hi;have htg: ∀ i:Nat,(i:Int)<st.length-ov->(cD ⟨st,ov⟩).getD i bm=st.getD i bm:=fun i hi=>Bc hr hi;have hR:dA L ⟨(st.drop a).take m,o⟩=0:=by
  refine MD hr.lay ?_ ?_ ?_ ?_ ?_
  ·simp only[hpl];omega
  ·simp only[hpl];omega
  ·refine yd fun j hj=> ?_
   simp only[hpl]at hj⊢;rw[hpg j hj];exact fU hr.ok (by simp only;omega)
  ·refine En fun j hj=> ?_
   simp only[hpl]at hj⊢;cases e:kS ((st.drop a).take m) j with
   |false=>rfl
   |true=>
    exfalso;unfold kS at e;have⟨x,hx,e2⟩:=acN.1 e;obtain⟨i,hi,rfl⟩:=acB.1 hx;rw[abk,hpl]at hi
    have hi2:i<j:=by omega
    have e3:((List.take m (st.drop a)).take j)[i]=st.getD (a+i) bm:=by
     rw[← hpg i (by omega),acM,GD,GE (by omega)];rfl
    rw[decide_eq_true_eq]at e2
    rw[e3,hpg j hj]at e2
    exact MO hr (i:=a+i) (j:=a+j) (by omega) (by simp only;omega) (by simp only;rw[e2])
  ·refine uV fun j hj=> ?_
   simp only[hpl]at hj⊢;unfold kz;rw[hpg j (by omega),hpg (j+1) hj];have:=acH.1 hr.link (a+j) (aby.2 (by simp only;omega));exact this
 have NO:cD ⟨(st.drop a).take m,o⟩=((cD ⟨st,ov⟩).drop a).take (m-o.toNat):=by
  unfold cD;simp only[hpl];rw[aeE,List.drop_take,aeE];congr 1;omega
 have hC:ed L ⟨(st.drop a).take m,o⟩=0:=by
  refine zl hR ?_;rw[NO];have h4: ¬ 4000<(fV L (cD ⟨st,ov⟩)).length:=by
   intro h5;rw[zm (gB h1) h5]at h1
   cases h1
  have e1:=congrArg (fun x=>(fV L x).length) (ad5 a (cD ⟨st,ov⟩));have e2:=congrArg (fun x=>(fV L x).length) (ad5 (m-o.toNat) ((cD ⟨st,ov⟩).drop a));simp only[P5,acT]at e1 e2;omega
 refine Qo hC h2 (DX fun j hj=> ?_);rw[NO]at hj⊢
 rw[abk,abP]at hj
 rw[H8 _ (by omega)];exact JC h3 (by omega)
def xm (n p:Nat): ∀ (r:List fe) (prev:List fe),bP n p prev r=0-> ∀ i,(h:i<r.length)->dL n p (prev++r.take i) r[i]=0
 |[],_,_,i,h=>by simp at h
 |x::r,prev,hz,i,h=>by
  simp only[bP]at hz;by_cases hx:dL n p prev x=0
  ·rw[aa8 hx]at hz
   cases i with
   |zero=>simpa using hx
   |succ i=>
    have:=xm n p r (prev++[x]) hz i (by simpa using h);simpa[aeh]using this
  ·rw[aa7 hx]at hz;exact absurd hz hx
def NZ {L:cg} (hv:bH L=0) {i:Nat} (hij:i<j) (hj:j<L.aE.length) {s t:bX} (h1:rv s t (L.aE.getD i bD)=true) (h2:rv s t (L.aE.getD j bD)=true):False:=by
 have hl:bP L.ay.length L.bo.length [] L.aE=0:=by
  unfold bH at hv;split at hv
  ·cases hv
  ·split at hv
   ·cases hv
   ·exact(eZ (eZ (eZ hv).2).2).2
 have hx:=xm _ _ L.aE [] hl j hj;rw[adI]at hx
 have ei:L.aE.getD i bD=L.aE[i]:=by rw[GD,GE (by omega)];rfl
 have ej:L.aE.getD j bD=L.aE[j]:=by rw[GD,GE hj];rfl
 rw[ei]at h1
 rw[ej]at h2
 unfold dL at hx;split at hx
 ·cases hx
 ·split at hx
  ·cases hx
  ·split at hx
   ·cases hx
   next dQ=>
    apply dQ;refine acN.2 ⟨L.aE[i],acB.2 ⟨i,by rw[abk];omega,acM ..⟩,?_⟩;unfold rv at h1 h2;unfold gF;rw[abz,decide_eq_true_eq,decide_eq_true_eq]at h1 h2
    rw[abt,decide_eq_true_eq,decide_eq_true_eq];rcases h1 with ⟨⟨a1,a2⟩,a3,a4⟩|⟨⟨a1,a2⟩,a3,a4⟩<;>rcases h2 with ⟨⟨b1,b2⟩,b3,b4⟩|⟨⟨b1,b2⟩,b3,b4⟩
    ·exact⟨.inl ⟨a1.trans b1.symm,a2.trans b2.symm⟩,.inr ⟨a3.trans b3.symm,a4.trans b4.symm⟩⟩
    ·exact⟨.inr ⟨a3.trans b1.symm,a4.trans b2.symm⟩,.inl ⟨a1.trans b3.symm,a2.trans b4.symm⟩⟩
    ·exact⟨.inr ⟨a3.trans b1.symm,a4.trans b2.symm⟩,.inl ⟨a1.trans b3.symm,a2.trans b4.symm⟩⟩
    ·exact⟨.inl ⟨a1.trans b1.symm,a2.trans b2.symm⟩,.inr ⟨a3.trans b3.symm,a4.trans b4.symm⟩⟩
def iH (L:cg) (st:List bX) (i:Nat):Int:=if i=0 then -1 else((ka L (st.getD (i-1) bm) (st.getD i bm)).map wP.pt).getD (-1)
def uS (s t:bX) (l:List fe):Int:=l.foldl (fun v k=>if rv s t k=true then k.pt else v) (-1)
def zZ (s t:bX) (l:List fe) (k:fe):uS s t (l++[k])=if rv s t k=true then k.pt else uS s t l:=by unfold uS;rw[adx];rfl
def Hg {s t:bX}: ∀ {l:List fe} {v:Int},(∀ k∈l,rv s t k=false)->l.foldl (fun v k=>if rv s t k=true then k.pt else v) v=v
 |[],v,_=>rfl
 |k::l,v,h=>by
  rw[aet,aa7 (by rw[h k (abq ..)];decide)];exact Hg fun x hx=>h x (acE _ hx)
def Hf {s t:bX}: ∀ {l:List fe} {v:Int},(∀ i j,i<j->j<l.length->rv s t (l.getD i bD)=true->rv s t (l.getD j bD)=true->False)->l.foldl (fun v k=>if rv s t k=true then k.pt else v) v=((l.find? (rv s t)).map fe.pt).getD v
 |[],v,_=>rfl
 |k::l,v,h=>by
  rw[aet,adJ];cases e:rv s t k with
  |true=>
   rw[aa8 rfl];show _=k.pt;refine Hg fun x hx=> ?_;obtain⟨i,hi,rfl⟩:=acB.1 hx;cases e2:rv s t l[i]with
   |false=>rfl
   |true=>
    exfalso;refine h 0 (i+1) (by omega) (by simpa using hi) e ?_;rw[List.getD_cons_succ,GD,GE hi];exact e2
  |false=>
   rw[aa7 (by decide)];exact Hf fun i j hij hj h1 h2=>h (i+1) (j+1) (by omega) (by simpa using hj) h1 h2
def QO {L:cg} (hv:bH L=0) {s t:bX} (hs:s.dir=0\/s.dir=1) (ht:t.dir=0\/t.dir=1):uS s t L.aE=((ka L s t).map wP.pt).getD (-1):=by
 have h1:=Hf (s:=s) (t:=t) (l:=L.aE) (v:= -1) fun i j hij hj h1 h2=>NZ hv hij hj h1 h2;have h2:=pV hv hs ht;unfold nT at h2;unfold uS;rw[h1,h2]
def BA (L:cg) (st:List bX):Bool:=(abi st.length).any fun i=>decide (0<=iH L st i)&&(abi i).any fun j=>decide (iH L st j=iH L st i)
def fl (L:cg) (r:jB) (l sp ac br:Int):Int:=if de L r l sp ac br≠0 then de L r l sp ac br else if BA L r.st=true then 13 else 0
def fP (st:List bX) (ov:Int) (a b:Nat):jB:=if(b:Int)=st.length-ov-1 then⟨st.drop a,ov⟩else⟨(st.drop a).take (b+1-a),0⟩
def rT {L:cg} {st:List bX} {ov l sp ac br:Int} (h:de L ⟨st,ov⟩ l sp ac br=0) {a b:Nat} (hab:a<b) (hb:(b:Int)<=st.length-ov-1):de L (fP st ov a b) l sp ac br=0:=by
 have hr:=dq (gB (nM h).1);have g1:=hr.rS;have g2:=hr.ov;simp only at g1 g2;unfold fP;split
 next e=>
  have:=C0 h (a:=a) (m:=st.length-a) (o:=ov) g1 g2 (by omega) (by omega) (by omega)
  rwa [aca (by rw[abP];omega)]at this
 ·exact C0 h (a:=a) (m:=b+1-a) (o:=0) (by omega) (by omega) (by omega) (by omega) (by omega)
def CZ {L:cg} {st:List bX} {ov l sp ac br:Int} (h:de L ⟨st,ov⟩ l sp ac br=0) {a b:Nat} (hab:a<b) (hb:(b:Int)<=st.length-ov-1):(cD (fP st ov a b)).length=b-a+1:=by
 have hr:=dq (gB (nM h).1);have g1:=hr.rS;simp only at g1;unfold fP;split
 next e=>
  unfold cD;simp only[abk,abP];omega
 ·unfold cD
  simp only[abk,abP];omega
section
variable (L:cg) (r:jB) (l sp ac br:Int)
def xp (k:Nat):Int:=lJ L r l sp ac br k / 1000-16
def xq (k:Nat):Int:=lJ L r l sp ac br (k+1) / 1000
def Gy (k:Nat):Int:=(lO L r l sp ac br k+999) / 1000+4
def Rs (n:Nat):Int:=if 0<r.ov then lJ L r l sp ac br n / 1000-16 else 0
end
def jQ {L:cg} {r:jB} {l sp ac br:Int} (h:Jn L r l sp ac br) {k:Nat} (hk:k<(cD r).length):0<=lJ L r l sp ac br k/\lJ L r l sp ac br k<=80000000/\0<=lO L r l sp ac br k/\lO L r l sp ac br k<=80000000:=by
 have a:=h.rng _ (kq L (cD r) (show k-1<=(cD r).length-1 by omega));have b:=h.rng _ (Yt h hk).2;exact⟨a.1,a.2,b.1,b.2⟩
def ME {L:cg} {r:jB} {l sp ac br:Int} (h:Jn L r l sp ac br):0<m8 L r l sp ac br/\m8 L r l sp ac br<=80001:=by
 have a:=h.rng _ (acX _);have⟨b1,b2⟩:=Pl.o8 (gJ L r l sp ac br (bx L (cD r) ((cD r).length-1))) 1000 (by omega);refine⟨Vw h,?_⟩;unfold m8;omega
section
variable (g:Nat->Int) (m:Nat) (N:Nat->Nat->Int) (R:Nat->Nat->Int) (O:Nat->Int) (ov late:Int)
end
def oJ (n:Nat) (f:Nat->α):List α:=(abi n).map f
def Iu (n:Nat) (f:Nat->α):(oJ n f).length=n:=by simp[oJ]
def It {f:Nat->α} {i:Nat} {d:α} (h:i<n):(oJ n f).getD i d=f i:=by simp[oJ,GD,h]
def Iw {f g:Nat->α} {i:Nat} {x:α} (hx:g i=x) (h: ∀ j,j<n->j≠i->g j=f j):(oJ n f).set i x=oJ n g:=by
 apply abw
 ·simp[oJ]
 ·intro j h1 h2
  have hj:j<n:=by simpa[oJ]using h2
  rw[ac0];split
  ·rename_i e;subst e;simp[oJ,hx]
  ·rename_i e;simp only[oJ,abV,acz];exact(h j hj (fun e'=>e e'.symm)).symm
def AV {f g:Nat->α} (h: ∀ j,j<n->f j=g j):oJ n f=oJ n g:=by
 unfold oJ;exact aeb fun j hj=>h j (aby.1 hj)
def Iv (n:Nat) (d:α):adK n d=oJ n fun _=>d:=by
 apply abw
 ·simp[oJ]
 ·intro j h1 h2;simp[oJ]
def kW (L:cg) (st:List bX) (i:Nat) (p:Nat):Bool:=(abi i).any fun j=>decide (iH L st j=(p:Int))
def oe (L:cg) (st:List bX) (i:Nat):Bool:=decide (0<=iH L st i)&&(abi i).any fun j=>decide (iH L st j=iH L st i)
def GB {L:cg} {st:List bX} {i:Nat} (hi:i<st.length) (h:oe L st i=true):BA L st=true:=acN.2 ⟨i,aby.2 hi,h⟩
def LI {L:cg} {st:List bX} (h: ∀ i,i<st.length->oe L st i=false):BA L st=false:=by
 unfold BA;rw[List.any_eq_false];intro i hi;have:=h i (aby.1 hi);unfold oe at this;rw[this];exact Bool.false_ne_true
def kC (L:cg) (st:List bX) (i p:Nat):kW L st (i+1) p=(kW L st i p||decide (iH L st i=(p:Int))):=by
 unfold kW;rw[acJ,List.any_append,adQ,ae3,acY]
def Dc {L:cg} {st:List bX} {i:Nat} (h0:0<=iH L st i):oe L st i=kW L st i (iH L st i).toNat:=by
 unfold oe kW;rw[decide_eq_true h0,adT,Int.toNat_of_nonneg h0]
def My {L:cg} {r:jB} (h:qm L r) {i:Nat} (hi:i<r.st.length): -1<=iH L r.st i/\iH L r.st i<L.bo.length:=by
 unfold iH;split
 ·omega
 ·have⟨k,h1,h2,h3⟩:=Me h (i:=i) (by omega) hi
  rw[h1];exact⟨h2,h3⟩
def Q1 {l:List fe} {i:Nat} (hi:i<l.length):l.take (i+1)=l.take i++[l.getD i bD]:=by rw[abO hi,GD,GE hi];rfl
def N2 (s:bX):cC abg 195 [Ds s] [] (vI (nN s.dir)) []:=by
 unfold nN;refine FQ Tryz.func195 ?_;refine AZ ?_;repeat' first|apply aa|intro hbq
 ·rw[aa8 hbq]
  repeat'(first|with_reducible(first|refine KQ ?_|exact⟨⟩)|refine lC.c ?_|fail)
 ·rw[aa7 hbq]
  repeat'(first|with_reducible(first|refine KQ ?_|exact⟨⟩)|refine lC.c ?_|fail)
def N1 (s:bX) (h:s.dir=0\/s.dir=1):cC abg 196 [Ds s] [] (vI (nN (wD s.dir))) []:=by
 unfold nN wD;refine FQ Tryz.func196 ?_;refine AZ ?_;repeat' first|apply aa|intro hbq
 ·rw[aa8 hbq]
  repeat'(first|with_reducible refine KQ ?_|refine lC.c ?_|rfl)
 ·rw[aa7 hbq]
  repeat'(first|with_reducible refine KQ ?_|refine lC.c ?_|rfl)
def Ko (L:cg) (hL:cP L) (st:List bX) (ov:Int) (hR:qm L ⟨st,ov⟩):cC abg 149 [cc L,sX st ov] [] (.c (fG (row st.length (iH L st)))) []:=by
 have hV:=dJ hR.lay;have hn:=hR.len;simp only at hn;have L7:=hV.n4;have QB: ∀ i,i<st.length->(st.getD i bm).dir=0\/(st.getD i bm).dir=1:=fun i hi=>(fm (fU hR.ok hi)).2.2;have Tn: ∀ i,0<i->i<st.length->uS (st.getD (i-1) bm) (st.getD i bm) L.aE=iH L st i:=fun i h0 hi=>by
  rw[QO hR.lay (QB _ (by omega)) (QB _ hi)];unfold iH;rw[aa7 (by omega)]
 unfold cc;refine PQ Tryz.func149 ?_;repeat'(first|with_reducible(first|refine aa ?_ ?_|exact⟨⟩)|refine AZ ?_|fail)
 refine aI (fun i:Nat=>SS [sC 2 (pB 0),sC 3 (pB 1),sC 5 (.c (.arr 2 0 st.length st.length)),sI 18 st.length,sI 19 i] [o5 L,n9 st ov,uv (row st.length fun j=>if j<i then iH L st j else 0)]) (fun i=>i<=st.length) (fun i=>st.length-i) 0 ?_ (by omega) ?_
 ·
  refine WZ ?_;repeat' with_reducible(first|refine aa ?_ ?_|exact⟨⟩|fail)
  all_goals first
   |rfl
   |(rw[abh,rh];rfl)
 intro i hi;have O5:=aU st.length fun j=>if j<i then iH L st j else 0
 by_cases hil:i<st.length
 ·by_cases hi0:i=0
  ·
   repeat'(first|with_reducible(first|refine aa ?_ ?_|exact⟨⟩|(apply q_L;intro hbq))|refine AZ ?_|fail)
   ·rfl
   ·
    refine LZ (i+1) ?_;repeat' with_reducible(first|refine aa ?_ ?_|exact⟨⟩|fail)
    all_goals(
     rw[abh];refine iJ (i:=i) ?_ fun j hj hne=> ?_
     ·rw[aa8 (by omega),hi0];rfl
     ·by_cases h1:j<i
      ·rw[aa8 h1,aa8 (by omega)]
      ·rw[aa7 h1,aa7 (by omega)])
  ·
   have e0:(row st.length fun j=>if j<i then iH L st j else 0).set (i:Int).toNat (-1)=row st.length fun j=>if j<i then iH L st j else if j=i then uS (st.getD (i-1) bm) (st.getD i bm) (L.aE.take 0)else 0:=by
    rw[abh];refine iJ (i:=i) ?_ fun j hj hne=> ?_
    ·rw[aa7 (by omega),aa8 rfl];rfl
    ·by_cases h1:j<i
     ·rw[aa8 h1,aa8 h1]
     ·rw[aa7 h1,aa7 h1,aa7 hne]
   have e1:((i:Int)-1).toNat=i-1:=by omega
   have hpi:=Tn i (by omega) hil;have d1:=QB (i-1) (by omega);have d2:=QB i hil;clear Tn QB;repeat'(first|with_reducible(first|refine aa ?_ ?_|exact⟨⟩|refine DQ ?_|assumption|refine ao ?_|refine av ?_|exact VQ)|((with_reducible apply q_W);refine FY [0,1,2,3,4,5,6,7,8,9,10] 11 12 [13,14] 3 (by kernel_rfl) rfl rfl rfl rfl ?_)|((with_reducible apply RE);kernel_rfl)|((with_reducible apply RC);exact FM rfl)|((with_reducible apply RD);refine FP rfl ?_)|((with_reducible apply ah);refine ag rfl ?_ ?_;all_goals(intro hbq;(try simp only[bq]at hbq);(try(exfalso;omega))))|refine RQ ?_|omega)
   ·rfl
   all_goals(
    rw[e0,e1,abh];generalize hA:st.getD (i-1) bm=a at*;generalize hB:st.getD i bm=b at*;have hl1:=N2 a;have NN:=N1 b d2;refine aI (fun k:Nat=>SS [sC 2 (pB 0),sC 3 (pB 1),sC 5 (.c (.arr 2 0 st.length st.length)),sI 6 i,sC 7 (pB 3),sC 8 (pB 4),sI 18 st.length,sI 19 i,sC 39 (kB L.aE),sI 40 L.aE.length,sI 41 k] [o5 L,n9 st ov,uv (row st.length fun j=>if j<i then iH L st j else if j=i then uS a b (L.aE.take k)else 0),some (.cells [xI a.sec,xI a.dir]),some (.cells [xI b.sec,xI b.dir])]) (fun k=>k<=L.aE.length) (fun k=>L.aE.length-k) 0 ?_ (by omega) ?_
    ·
     refine WZ ?_;repeat' with_reducible(first|refine aa ?_ ?_|exact⟨⟩|fail)
    intro k hk;have agU:=aU st.length fun j=>if j<i then iH L st j else if j=i then uS a b (L.aE.take k)else 0
    by_cases nW:k<L.aE.length
    ·have e2:L.aE.take (k+1)=L.aE.take k++[L.aE.getD k bD]:=Q1 nW
     repeat'(first|with_reducible(first|refine aa ?_ ?_|exact⟨⟩|(apply q_L;intro hbq))|((with_reducible apply bu);refine bt ((fun _=>hl1)) rfl ?_ ?_)|((with_reducible apply bu);refine bt ((fun _=>NN)) rfl ?_ ?_)|(intro(aX:(_:Bool)=_);(try simp only[bq]at aX))|(simp only[aX,bq];done)|refine AZ ?_|fail)
     ·rfl
     ·have ht:rv a b (L.aE.getD k bD)=true:=by
       simp only[abh]at hbq;unfold rv;simp only[abz,decide_eq_true_eq];omega
      refine LZ (k+1) ?_;repeat' with_reducible(first|refine aa ?_ ?_|exact⟨⟩|fail)
      all_goals(
       simp only[abh];rw[e2];refine iJ (i:=i) ?_ fun j hj hne=> ?_
       ·rw[aa7 (by omega),aa8 rfl,zZ,aa8 ht]
       ·by_cases h1:j<i
        ·rw[aa8 h1,aa8 h1]
        ·rw[aa7 h1,aa7 h1,aa7 hne,aa7 hne])
     ·have ht: ¬ rv a b (L.aE.getD k bD)=true:=by
       simp only[abh]at hbq;unfold rv;simp only[abz,decide_eq_true_eq];omega
      refine LZ (k+1) ?_;repeat' with_reducible(first|refine aa ?_ ?_|exact⟨⟩|fail)
      all_goals(rw[e2,zZ,aa7 ht])
    ·have xW:k=L.aE.length:=by omega
     subst xW;rw[adB]at*
     repeat'(first|with_reducible(first|refine aa ?_ ?_|exact⟨⟩|(apply q_L;intro hbq))|refine AZ ?_|fail)
     ·
      refine LZ (i+1) ?_;repeat' with_reducible(first|refine aa ?_ ?_|exact⟨⟩|fail)
      all_goals(
       refine fQ fun j hj=> ?_;by_cases h1:j<i
       ·rw[aa8 h1,aa8 (by omega)]
       ·by_cases h2:j=i
        ·rw[aa7 h1,aa8 h2,aa8 (by omega),h2,hpi]
        ·rw[aa7 h1,aa7 h2,aa7 (by omega)]))
 ·have hie:i=st.length:=by omega
  subst hie;have hr:(row st.length fun j=>if j<st.length then iH L st j else 0)=row st.length (iH L st):=fQ fun j hj=>aa8 hj;repeat'(first|with_reducible(first|refine aa ?_ ?_|exact⟨⟩|(apply q_L;intro hbq))|(intro _;exact rfl)|refine AZ ?_|fail)
  rw[hr];rfl
def Al (st:List bX) (ov:Int) (hl:st.length<=9223372036854775807) (h0:0<=ov/\ov<=st.length):cC abg 99 [sX st ov] [] (vI (st.length-ov-1)) []:=by
 refine FQ Tryz.func99 ?_;refine AZ ?_;and_intros
 repeat'(first|with_reducible(first|refine KQ ?_|exact⟨⟩)|refine lC.c ?_|fail)
def re (st:List bX) (ov:Int) (hl:st.length<=9223372036854775807) (h0:0<=ov/\ov<=st.length):cC abg 44 [sX st ov] [] (vI (st.length-ov-1)) []:=by
 refine FQ Tryz.func44 ?_;refine AZ ?_;and_intros
 repeat'(first|with_reducible(first|refine KQ ?_|exact⟨⟩)|refine lC.c ?_|fail)
def Ak (L:cg) (hL:cP L) (st:List bX) (ov:Int) (hl:st.length<=9223372036854775807) (ho: -9223372036854775808<=ov/\ov<=9223372036854775807) (nm:ByteArray) (l sp ac br:Int):cC abg 98 [cc L,sX st ov,sY nm l sp ac br] [] (vI (fl L ⟨st,ov⟩ l sp ac br)) []:=by
 have hF:=Um L hL st ov hl ho nm l sp ac br;unfold fl;by_cases h:de L ⟨st,ov⟩ l sp ac br=0
 ·have hR:=dq (gB (nM h).1)
  have hV:=dJ hR.lay;have hn:=hR.len;have FH:=hV.n2;have hP:=Ko L hL st ov hR;have hpr: ∀ i,i<st.length-> -1<=iH L st i/\iH L st i<L.bo.length:=fun i hi=>My hR hi;simp only at hn;rw[h]at hF
  rw[h,aa7 (by decide)];unfold cc at hF hP⊢;have hpl:=aU st.length (iH L st);refine FQ afd ?_;repeat'(first|with_reducible(first|refine aa ?_ ?_|exact⟨⟩|(apply q_L;intro hbq))|((with_reducible apply aA);first|refine an (hF) rfl ?_|refine an (hP) rfl ?_)|refine AZ ?_|fail)
  clear hF hP;refine aI (fun i:Nat=>SS [sC 8 (.c (.arr 3 0 L.bo.length L.bo.length)),sC 24 (fG (row st.length (iH L st))),sI 25 st.length,sI 26 i] [none,none,none,y9 (oJ L.bo.length (kW L st i))]) (fun i=>i<=st.length/\ ∀ j,j<i->oe L st j=false) (fun i=>st.length-i) 0 ?_ ⟨by omega,fun j hj=>by omega⟩ ?_
  ·
   refine WZ ?_
   all_goals first
    |rfl
    |(rw[abh,Iv];rfl)
    |(rw[aU])
  intro i hi;have⟨hi,dQ⟩:=hi;have O6:=Iu L.bo.length (kW L st i);by_cases hil:i<st.length
  ·have hg:(row st.length (iH L st)).getD (i:Int).toNat 0=iH L st i:=c9 hil
   have hpi:=hpr i hil;by_cases h0:0<=iH L st i
   ·have hd:=Dc h0
    have hg2:(oJ L.bo.length (kW L st i)).getD ((row st.length (iH L st)).getD (i:Int).toNat 0).toNat false=kW L st i (iH L st i).toNat:=by rw[hg];exact It (by omega)
    by_cases hs:kW L st i (iH L st i).toNat=true
    ·rw[hs]at hg2 hd
     rw[aa8 (GB hil hd)];repeat'(first|with_reducible(first|refine aa ?_ ?_|exact⟨⟩|exact bj.nil _|refine DQ ?_|refine ao ?_|refine av ?_|exact VQ)|((with_reducible apply ah);refine ag rfl ?_ ?_;all_goals(intro hbq;(try simp only[bq,hg2]at hbq);(try(exfalso;omega))))|refine RQ ?_|omega)
     ·rfl
    ·have hs:kW L st i (iH L st i).toNat=false:=by simpa using hs
     rw[hs]at hg2 hd
     repeat'(first|with_reducible(first|refine aa ?_ ?_|exact⟨⟩|refine DQ ?_|refine ao ?_|refine av ?_|exact VQ)|((with_reducible apply ah);refine ag rfl ?_ ?_;all_goals(intro hbq;(try simp only[bq,hg2]at hbq);(try(exfalso;omega))))|refine RQ ?_|omega)
     ·rfl
     ·
      refine LY (i+1) (⟨by omega,bM dQ hd⟩) ?_
      all_goals(
       rw[hg];refine Iw (i:=(iH L st i).toNat) ?_ fun p hp hne=> ?_
       ·rw[kC,decide_eq_true (show iH L st i=((iH L st i).toNat:Int)by omega),ae4]
       ·rw[kC,decide_eq_false (show ¬ iH L st i=(p:Int)by omega),acY])
   ·
    have hd:oe L st i=false:=by unfold oe;rw[decide_eq_false h0,acU]
    refine AZ ?_;repeat' first|apply aa|intro hbq
    ·
     refine LY (i+1) (⟨by omega,bM dQ hd⟩) ?_
     all_goals(
      refine AV fun p hp=> ?_
      rw[kC,decide_eq_false (show ¬ iH L st i=(p:Int)by omega),acY])
  ·have hie:i=st.length:=by omega
   subst hie;rw[LI dQ,aa7 (by decide)];refine AZ ?_;repeat' first|apply aa|intro hbq
   all_goals rfl
 ·rw[aa8 h]
  unfold cc at hF⊢;refine FQ afd ?_;repeat'(first|with_reducible(first|refine aa ?_ ?_|exact⟨⟩|(apply q_L;intro hbq))|((with_reducible apply aA);refine an (hF) rfl ?_)|refine AZ ?_|fail)
  all_goals rfl
abbrev nu (a b:Int) (x y z:List Int) (o n:Int):List SC:=[xI a,xI b,fG x,fG y,fG z,xI o,xI n]
def BM (L:cg) (r:jB) (l sp ac br:Int) (a b:Nat):List SC:=nu a b (row (b-a) (xp L r l sp ac br)) (row (b-a) (xq L r l sp ac br)) (row (b-a) (Gy L r l sp ac br)) (Rs L r l sp ac br (b-a)) (m8 L r l sp ac br)
abbrev Wy:List SC:=nu 0 0 [] [] [] 0 0
def bC (st:List bX) (a b:Nat):List bX:=st.drop (a:Int).toNat
def bz (st:List bX) (a b:Nat):List bX:=(st.drop (a:Int).toNat).take ((b:Int)+1-a).toNat
def KC (L:cg) (hL:cP L) (st:List bX) (ov:Int) (nm:ByteArray) (l sp ac br:Int) (h:de L ⟨st,ov⟩ l sp ac br=0) (a b:Nat) (hab:a<b) (hb:(b:Int)<=st.length-ov-1):cC abg 100 [cc L,sX st ov,sY nm l sp ac br,.c (xI a),.c (xI b)] [] (.agg (BM L (fP st ov a b) l sp ac br a b)) []:=by
 have hR:=dq (gB (nM h).1);have g1:=hR.rS;have g2:=hR.ov;have g3:=hR.len;simp only at g1 g2 g3;have hf:=rT h hab hb;have hpl:=CZ h hab hb;have tC:=Al st ov (by omega) (by omega);have Kb:(fP st ov a b).st.length<=24:=by unfold fP;split<;>simp only[abk,abP]<;>omega
 clear hR;unfold BM Rs;by_cases e:(b:Int)=st.length-ov-1
 ·have hpe:fP st ov a b=⟨bC st a b,ov⟩:=by
   unfold fP
   first
    |(rw[aa8 e];rfl)
    |(rw[aa7 e];unfold bz;rw[abh,show((b:Int)+1-a).toNat=b+1-a by omega])
  rw[hpe]at hf hpl Kb⊢
  simp only at Kb;have hT:=Ch L hL (bC st a b) ov (by omega) (by omega) nm l sp ac br hf;have L3:=pN hf;have Qx:=aU (cD ⟨bC st a b,ov⟩).length fun k=>gJ L ⟨bC st a b,ov⟩ l sp ac br (bx L (cD ⟨bC st a b,ov⟩) (k-1));have Qy:=aU (cD ⟨bC st a b,ov⟩).length (lO L ⟨bC st a b,ov⟩ l sp ac br);change (vY L ⟨bC st a b,ov⟩ l sp ac br (cD ⟨bC st a b,ov⟩).length).length=_ at Qx;change (wq L ⟨bC st a b,ov⟩ l sp ac br (cD ⟨bC st a b,ov⟩).length).length=_ at Qy;have Bn: ∀ k,k<b-a+1->(vY L ⟨bC st a b,ov⟩ l sp ac br (cD ⟨bC st a b,ov⟩).length).getD k 0=lJ L ⟨bC st a b,ov⟩ l sp ac br k/\0<=lJ L ⟨bC st a b,ov⟩ l sp ac br k/\lJ L ⟨bC st a b,ov⟩ l sp ac br k<=80000000:=fun k hk=>⟨c9 (by omega),(jQ L3 (by omega)).1,(jQ L3 (by omega)).2.1⟩;have NL: ∀ k,k<b-a+1->(wq L ⟨bC st a b,ov⟩ l sp ac br (cD ⟨bC st a b,ov⟩).length).getD k 0=lO L ⟨bC st a b,ov⟩ l sp ac br k/\0<=lO L ⟨bC st a b,ov⟩ l sp ac br k/\lO L ⟨bC st a b,ov⟩ l sp ac br k<=80000000:=fun k hk=>⟨c9 (by omega),(jQ L3 (by omega)).2.2⟩;have hN: ∀ k,k<b-a+1->xp L ⟨bC st a b,ov⟩ l sp ac br k=(lJ L ⟨bC st a b,ov⟩ l sp ac br k) / 1000-16:=fun k hk=>rfl;have hPa: ∀ k,xq L ⟨bC st a b,ov⟩ l sp ac br k=(lJ L ⟨bC st a b,ov⟩ l sp ac br (k+1)) / 1000:=fun k=>rfl;have hCl: ∀ k,Gy L ⟨bC st a b,ov⟩ l sp ac br k=(lO L ⟨bC st a b,ov⟩ l sp ac br k+999) / 1000+4:=fun k=>rfl;clear L3 hf;generalize xp L ⟨bC st a b,ov⟩ l sp ac br=F1 at*;generalize xq L ⟨bC st a b,ov⟩ l sp ac br=F2 at*;generalize Gy L ⟨bC st a b,ov⟩ l sp ac br=F3 at*;generalize lJ L ⟨bC st a b,ov⟩ l sp ac br=E1 at*;generalize lO L ⟨bC st a b,ov⟩ l sp ac br=E2 at*;generalize vY L ⟨bC st a b,ov⟩ l sp ac br (cD ⟨bC st a b,ov⟩).length=es at*;generalize wq L ⟨bC st a b,ov⟩ l sp ac br (cD ⟨bC st a b,ov⟩).length=lv at*;generalize m8 L ⟨bC st a b,ov⟩ l sp ac br=run at*;have Qx:es.length=b-a+1:=Qx.trans hpl;have Qy:lv.length=b-a+1:=Qy.trans hpl;clear hpl hpe;unfold bC at Kb hT;unfold cc at hT⊢;refine PQ ae6 ?_;repeat'(first|with_reducible(first|refine aa ?_ ?_|exact⟨⟩|(apply q_L;intro hbq))|((with_reducible apply aA);first|refine an (tC) rfl ?_|refine an (hT) rfl ?_)|(intro _;exact rfl)|refine AZ ?_|fail)
  clear hT tC;refine aI (fun k:Nat=>SS [sC 10 (pB 3),sC 11 (pB 4),sC 12 (fG es),sC 13 (fG lv),sC 16 (pB 5),sI 17 ((b:Int)-a),sI 55 ((b:Int)-a),sI 56 k] [none,none,none,some (.cells [xI 0,xI 0,.c (.f .aD),.c (.f .aD),.c (.f .aD),xI 0,xI 0]),n9 (bC st a b) ov,some (.cells [xI a,xI b,pT (row k F1),pT (row k F2),pT (row k F3),xI 0,xI run])]) (fun k=>k<=b-a) (fun k=>b-a-k) 0 ?_ (by omega) ?_
  ·
   refine WZ ?_
   all_goals rfl
  intro k hk;have q1:=aU k F1;have q2:=aU k F2;have q3:=aU k F3;have m1:es.getD (k:Int).toNat 0=E1 k:=(Bn k (by omega)).1;have m2:=(Bn k (by omega)).2;have n1:lv.getD (k:Int).toNat 0=E2 k:=(NL k (by omega)).1;have n2:=(NL k (by omega)).2;by_cases Jb:k<b-a
  ·have m3:es.getD ((k:Int)+1).toNat 0=E1 (k+1):=(Bn (k+1) (by omega)).1
   have m4:=(Bn (k+1) (by omega)).2;refine AZ ?_;repeat' first|apply aa|intro hbq
   ·
    refine LZ (k+1) ?_;and_intros
    ·rw[el k F1,hN k (by omega),m1];simp[fk,fI]
    ·rw[aU,aU]
    ·rw[el k F2,hPa k,m3];simp[fk,fI]
    ·rw[aU,aU]
    ·rw[el k F3,hCl k,n1];simp[fk,fI]
    ·rw[aU,aU]
  ·have xW:k=b-a:=by omega
   subst xW;have e3:es.getD ((b:Int)-a).toNat 0=E1 (b-a):=by rw[← m1];congr 1;omega
   refine AZ ?_;repeat' first|apply aa|intro hbq
   all_goals first
    |(rw[e3];omega)
    |(rw[e3,aa8 hbq];rfl)
    |(rw[aa7 (by first|exact hbq|simp)];rfl)
 ·have hpe:fP st ov a b=⟨bz st a b,0⟩:=by
   unfold fP
   first
    |(rw[aa8 e];rfl)
    |(rw[aa7 e];unfold bz;rw[abh,show((b:Int)+1-a).toNat=b+1-a by omega])
  rw[hpe]at hf hpl Kb⊢
  simp only at Kb;have hT:=Ch L hL (bz st a b) 0 (by omega) (by omega) nm l sp ac br hf;have L3:=pN hf;have Qx:=aU (cD ⟨bz st a b,0⟩).length fun k=>gJ L ⟨bz st a b,0⟩ l sp ac br (bx L (cD ⟨bz st a b,0⟩) (k-1));have Qy:=aU (cD ⟨bz st a b,0⟩).length (lO L ⟨bz st a b,0⟩ l sp ac br);change (vY L ⟨bz st a b,0⟩ l sp ac br (cD ⟨bz st a b,0⟩).length).length=_ at Qx;change (wq L ⟨bz st a b,0⟩ l sp ac br (cD ⟨bz st a b,0⟩).length).length=_ at Qy;have Bn: ∀ k,k<b-a+1->(vY L ⟨bz st a b,0⟩ l sp ac br (cD ⟨bz st a b,0⟩).length).getD k 0=lJ L ⟨bz st a b,0⟩ l sp ac br k/\0<=lJ L ⟨bz st a b,0⟩ l sp ac br k/\lJ L ⟨bz st a b,0⟩ l sp ac br k<=80000000:=fun k hk=>⟨c9 (by omega),(jQ L3 (by omega)).1,(jQ L3 (by omega)).2.1⟩;have NL: ∀ k,k<b-a+1->(wq L ⟨bz st a b,0⟩ l sp ac br (cD ⟨bz st a b,0⟩).length).getD k 0=lO L ⟨bz st a b,0⟩ l sp ac br k/\0<=lO L ⟨bz st a b,0⟩ l sp ac br k/\lO L ⟨bz st a b,0⟩ l sp ac br k<=80000000:=fun k hk=>⟨c9 (by omega),(jQ L3 (by omega)).2.2⟩;have hN: ∀ k,k<b-a+1->xp L ⟨bz st a b,0⟩ l sp ac br k=(lJ L ⟨bz st a b,0⟩ l sp ac br k) / 1000-16:=fun k hk=>rfl;have hPa: ∀ k,xq L ⟨bz st a b,0⟩ l sp ac br k=(lJ L ⟨bz st a b,0⟩ l sp ac br (k+1)) / 1000:=fun k=>rfl;have hCl: ∀ k,Gy L ⟨bz st a b,0⟩ l sp ac br k=(lO L ⟨bz st a b,0⟩ l sp ac br k+999) / 1000+4:=fun k=>rfl;clear L3 hf;generalize xp L ⟨bz st a b,0⟩ l sp ac br=F1 at*;generalize xq L ⟨bz st a b,0⟩ l sp ac br=F2 at*;generalize Gy L ⟨bz st a b,0⟩ l sp ac br=F3 at*;generalize lJ L ⟨bz st a b,0⟩ l sp ac br=E1 at*;generalize lO L ⟨bz st a b,0⟩ l sp ac br=E2 at*;generalize vY L ⟨bz st a b,0⟩ l sp ac br (cD ⟨bz st a b,0⟩).length=es at*;generalize wq L ⟨bz st a b,0⟩ l sp ac br (cD ⟨bz st a b,0⟩).length=lv at*;generalize m8 L ⟨bz st a b,0⟩ l sp ac br=run at*;have Qx:es.length=b-a+1:=Qx.trans hpl;have Qy:lv.length=b-a+1:=Qy.trans hpl;clear hpl hpe;unfold bz at Kb hT;unfold cc at hT⊢;refine PQ ae6 ?_;repeat'(first|with_reducible(first|refine aa ?_ ?_|exact⟨⟩|(apply q_L;intro hbq))|((with_reducible apply aA);first|refine an (tC) rfl ?_|refine an (hT) rfl ?_)|(intro _;exact rfl)|refine AZ ?_|fail)
  clear hT tC;refine aI (fun k:Nat=>SS [sC 10 (pB 3),sC 11 (pB 4),sC 12 (fG es),sC 13 (fG lv),sC 16 (pB 5),sI 17 ((b:Int)-a),sI 55 ((b:Int)-a),sI 56 k] [none,none,none,some (.cells [xI 0,xI 0,.c (.f .aD),.c (.f .aD),.c (.f .aD),xI 0,xI 0]),n9 (bz st a b) 0,some (.cells [xI a,xI b,pT (row k F1),pT (row k F2),pT (row k F3),xI 0,xI run])]) (fun k=>k<=b-a) (fun k=>b-a-k) 0 ?_ (by omega) ?_
  ·
   refine WZ ?_
   all_goals rfl
  intro k hk;have q1:=aU k F1;have q2:=aU k F2;have q3:=aU k F3;have m1:es.getD (k:Int).toNat 0=E1 k:=(Bn k (by omega)).1;have m2:=(Bn k (by omega)).2;have n1:lv.getD (k:Int).toNat 0=E2 k:=(NL k (by omega)).1;have n2:=(NL k (by omega)).2;by_cases Jb:k<b-a
  ·have m3:es.getD ((k:Int)+1).toNat 0=E1 (k+1):=(Bn (k+1) (by omega)).1
   have m4:=(Bn (k+1) (by omega)).2;refine AZ ?_;repeat' first|apply aa|intro hbq
   ·
    refine LZ (k+1) ?_;and_intros
    ·rw[el k F1,hN k (by omega),m1];simp[fk,fI]
    ·rw[aU,aU]
    ·rw[el k F2,hPa k,m3];simp[fk,fI]
    ·rw[aU,aU]
    ·rw[el k F3,hCl k,n1];simp[fk,fI]
    ·rw[aU,aU]
  ·have xW:k=b-a:=by omega
   subst xW;have e3:es.getD ((b:Int)-a).toNat 0=E1 (b-a):=by rw[← m1];congr 1;omega
   refine AZ ?_;repeat' first|apply aa|intro hbq
   all_goals first
    |(rw[e3];omega)
    |(rw[e3,aa8 hbq];rfl)
    |(rw[aa7 (by first|exact hbq|simp)];rfl)
def wt {L:cg} {r:jB} {l sp ac br:Int} (h:fl L r l sp ac br=0):de L r l sp ac br=0/\BA L r.st=false:=by
 unfold fl at h;by_cases h1:de L r l sp ac br=0
 ·refine⟨h1,?_⟩
  rw[aa7 (by simpa using h1)]at h
  cases e:BA L r.st with
  |false=>rfl
  |true=>rw[e]at h;cases h
 ·rw[aa8 h1]at h;exact absurd h h1
def qU (L:cg) (st:List bX) (ov l sp ac br a b:Int):Int:=if fl L ⟨st,ov⟩ l sp ac br≠0 then fl L ⟨st,ov⟩ l sp ac br else if a<0\/b<=a\/(st.length:Int)-ov-1<b then 4 else 0
def abN (L:cg) (hL:cP L) (st:List bX) (ov:Int) (hl:st.length<=9223372036854775807) (ho: -9223372036854775808<=ov/\ov<=9223372036854775807) (nm:ByteArray) (l sp ac br a b:Int) (h: ¬ qU L st ov l sp ac br a b=0):cC abg 63 [cc L,sX st ov,sY nm l sp ac br,.c (xI a),.c (xI b)] [] (.dt [.agg Wy,.c (xI (qU L st ov l sp ac br a b))]) []:=by
 have hF:=Ak L hL st ov hl ho nm l sp ac br;unfold qU at h⊢;by_cases hm:fl L ⟨st,ov⟩ l sp ac br=0
 ·have hR:=dq (gB (nM (wt hm).1).1)
  have g1:=hR.rS;have g2:=hR.ov;have g3:=hR.len;have g4:=hR.two;simp only at g1 g2 g3 g4;have tC:=Al st ov hl (by omega);rw[hm]at hF h⊢
  rw[aa7 (by decide)]at h⊢
  have hc:a<0\/b<=a\/(st.length:Int)-ov-1<b:=adC fun hn=>h (aa7 hn);rw[aa8 hc];unfold cc at hF⊢;refine PQ ad8 ?_;repeat'(first|with_reducible(first|refine aa ?_ ?_|exact⟨⟩|(apply q_L;intro hbq))|((with_reducible apply aA);refine an (hF) rfl ?_)|((with_reducible apply bu);refine bt ((fun _=>tC)) rfl ?_ ?_)|(intro(aX:(_:Bool)=_);(try simp only[bq]at aX))|(simp only[aX,bq];done)|refine AZ ?_|fail)
  all_goals rfl
 ·rw[aa8 hm]
  unfold cc at hF⊢;refine PQ ad8 ?_;repeat'(first|with_reducible(first|refine aa ?_ ?_|exact⟨⟩|(apply q_L;intro hbq))|((with_reducible apply aA);refine an (hF) rfl ?_)|refine AZ ?_|fail)
  all_goals rfl
def Mm (L:cg) (hL:cP L) (st:List bX) (ov:Int) (hl:st.length<=9223372036854775807) (ho: -9223372036854775808<=ov/\ov<=9223372036854775807) (nm:ByteArray) (l sp ac br:Int) (a b:Nat) (h:fl L ⟨st,ov⟩ l sp ac br=0) (hab:a<b) (hb:(b:Int)<=st.length-ov-1):cC abg 63 [cc L,sX st ov,sY nm l sp ac br,.c (xI a),.c (xI b)] [] (.dt [.agg (BM L (fP st ov a b) l sp ac br a b),.c (xI 0)]) []:=by
 have hF:=Ak L hL st ov hl ho nm l sp ac br;have hf:=(wt h).1;have hR:=dq (gB (nM hf).1);have g1:=hR.rS;have g2:=hR.ov;have g3:=hR.len;have g4:=hR.two;simp only at g1 g2 g3 g4;have tC:=Al st ov hl (by omega);have hP:=KC L hL st ov nm l sp ac br hf a b hab hb;rw[h]at hF
 unfold BM at hP⊢;unfold cc at hF hP⊢;refine PQ ad8 ?_;repeat'(first|with_reducible(first|refine aa ?_ ?_|exact⟨⟩|(apply q_L;intro hbq))|((with_reducible apply aA);first|refine an (hF) rfl ?_|refine an (hP) rfl ?_)|((with_reducible apply bu);refine bt ((fun _=>tC)) rfl ?_ ?_)|(intro(aX:(_:Bool)=_);(try simp only[bq]at aX))|(simp only[aX,bq];done)|refine AZ ?_|fail)
 all_goals rfl
def ptR (L:cg) (a b:bX):Int:=if((ka L a b).map wP.pt).getD (-1)<0 then -1 else L.ay.length+((ka L a b).map wP.pt).getD (-1)
def Kz (L:cg) (a b:bX) (hV:Valid L) (hj: ∀ k,ka L a b=some k->k.pt<L.bo.length):cC abg 81 [cc L,Ds a,Ds b] [] (vI (ptR L a b)) []:=by
 have hH:=tT L a hV;have hlen:(ow L a).length<=192:=acS (List.length_filterMap_le _ _) hV.n4;have n2:=hV.n2;have n3:=hV.n3;unfold ptR;unfold ka at hj⊢;generalize ow L a=hs at*;unfold cc at hH⊢;refine FQ Tryz.func81 ?_;repeat'(first|with_reducible(first|refine aa ?_ ?_|exact⟨⟩)|((with_reducible apply aA);refine an (hH) rfl ?_)|refine AZ ?_|fail)
 clear hH;refine aI (fun i:Nat=>SS [sC 3 (pB 0),sC 5 (pB 2),sC 7 (RJ hs),sI 13 hs.length,sI 14 i] [o5 L,none,some (.cells [xI b.sec,xI b.dir])]) (fun i=>i<=hs.length/\ ∀ j,j<i->IT b (hs.getD j ⟨0,0,0,0⟩)=false) (fun i=>hs.length-i) 0 ?_ ⟨by omega,fun j hj=>by omega⟩ ?_
 ·
  refine WZ ?_;repeat' with_reducible(first|refine aa ?_ ?_|exact⟨⟩|fail)
 rintro i ⟨hi,dQ⟩;by_cases hil:i<hs.length
 ·by_cases ht:IT b (hs.getD i ⟨0,0,0,0⟩)=true
  ·have hf:=kG (p:=IT b) (d:=⟨0,0,0,0⟩) (l:=hs) (i:=i) hil ht dQ
   have hb:(hs.getD (i:Int).toNat ⟨0,0,0,0⟩).pt<L.bo.length:=hj _ hf;rw[hf];simp only[Option.map_some,acF];have ht2:(hs.getD (i:Int).toNat ⟨0,0,0,0⟩).sec=b.sec/\(hs.getD (i:Int).toNat ⟨0,0,0,0⟩).dir=b.dir:=by
    unfold IT at ht;simpa using ht
   by_cases hp:(hs.getD (i:Int).toNat ⟨0,0,0,0⟩).pt<0
   ·rw[aa8 (by exact hp)]
    repeat'(first|with_reducible(first|refine aa ?_ ?_|exact⟨⟩|(apply q_L;intro hbq))|refine AZ ?_|fail)
    all_goals first|rfl|(exfalso;simp_all;done)
   ·rw[aa7 (by exact hp)]
    repeat'(first|with_reducible(first|refine aa ?_ ?_|exact⟨⟩|(apply q_L;intro hbq))|refine AZ ?_|fail)
    all_goals first|rfl|(exfalso;simp_all;done)
  ·have ht:IT b (hs.getD i ⟨0,0,0,0⟩)=false:=by simpa using ht
   have ht2: ¬ ((hs.getD (i:Int).toNat ⟨0,0,0,0⟩).sec=b.sec/\(hs.getD (i:Int).toNat ⟨0,0,0,0⟩).dir=b.dir):=by
    unfold IT at ht;simpa using ht
   repeat'(first|with_reducible(first|refine aa ?_ ?_|exact⟨⟩|(apply q_L;intro hbq))|refine AZ ?_|fail)
   all_goals first
    |(exfalso;omega)
    |(
     refine LY (i+1) (⟨by omega,bM dQ ht⟩) ?_;repeat' with_reducible(first|refine aa ?_ ?_|exact⟨⟩|fail)
     done)
 ·have hf:=pg (p:=IT b) (d:=⟨0,0,0,0⟩) (l:=hs) (fun j hj=>dQ j (by omega))
  rw[hf];repeat'(first|with_reducible(first|refine aa ?_ ?_|exact⟨⟩|(apply q_L;intro hbq))|refine AZ ?_|fail)
  all_goals rfl
def sU (L:cg) (st:List bX) (i:Nat) (q:Nat):Bool:=decide (L.ay.length<=q)&&kW L st i (q-L.ay.length)
def IA (L:cg) (st:List bX) (i p:Nat):sU L st i (L.ay.length+p)=kW L st i p:=by
 unfold sU;rw[decide_eq_true (by omega),adT,show L.ay.length+p-L.ay.length=p by omega]
def A5 {L:cg} {st:List bX} {i:Nat} (h:iH L st i<0) (q:Nat):sU L st (i+1) q=sU L st i q:=by
 unfold sU;rw[kC,decide_eq_false (show ¬ iH L st i=((q-L.ay.length:Nat):Int)by omega),acY]
def AK (L:cg) (hL:cP L) (st:List bX) (ov:Int) (hl:st.length<=9223372036854775807) (ho: -9223372036854775808<=ov/\ov<=9223372036854775807) (nm:ByteArray) (l sp ac br:Int):cC abg 76 [cc L,sX st ov,sY nm l sp ac br] [] (vI (fl L ⟨st,ov⟩ l sp ac br)) []:=by
 have hF:=tQ L hL st ov hl ho nm l sp ac br;unfold fl;by_cases h:de L ⟨st,ov⟩ l sp ac br=0
 ·have hR:=dq (gB (nM h).1)
  have hV:=dJ hR.lay;have hn:=hR.len;have h2:=hR.two;have h3:=hR.rS;have FH:=hV.n2;have sq:=hV.n3;have hpr: ∀ i,i<st.length-> -1<=iH L st i/\iH L st i<L.bo.length:=fun i hi=>My hR hi;have hP: ∀ i,i+1<st.length->cC abg 81 [cc L,Ds (st.getD (i:Int).toNat bm),Ds (st.getD ((i:Int)+1).toNat bm)] [] (vI (if iH L st (i+1)<0 then -1 else L.ay.length+iH L st (i+1))) []:=fun i hi=>by
   have hj:=Me hR (i:=i+1) (by omega) hi
   have hp:=Kz L (st.getD i bm) (st.getD (i+1) bm) hV (fun k hk=>by
    have⟨k2,e,_,b⟩:=hj;rw[show i+1-1=i by omega]at e
    simp only at e;rw[hk]at e
    injection e with e
    rw[e];exact b)
   unfold ptR at hp;have ei:iH L st (i+1)=((ka L (st.getD i bm) (st.getD (i+1) bm)).map wP.pt).getD (-1):=by unfold iH;rw[aa7 (by omega)];rfl
   rw[ei,abh,show((i:Int)+1).toNat=i+1 by omega];exact hp
  simp only at hn h2 h3;rw[h]at hF
  rw[h,aa7 (by decide)];unfold cc at hF hP⊢;have z2:iH L st 0<0:=by unfold iH;rw[aa8 rfl];decide
  have z1:oe L st 0=false:=by unfold oe;rw[decide_eq_false (by omega),acU]
  refine FQ afe ?_;repeat'(first|with_reducible(first|refine aa ?_ ?_|exact⟨⟩|(apply q_L;intro hbq))|((with_reducible apply aA);refine an (hF) rfl ?_)|refine AZ ?_|fail)
  clear hF;refine aI (fun i:Nat=>SS [sC 3 (pB 0),sC 4 (pB 1),sC 8 (pB 3),sI 9 i] [o5 L,n9 st ov,none,y9 (oJ 144 (sU L st (i+1)))]) (fun i=>i+1<=st.length/\ ∀ j,j<i+1->oe L st j=false) (fun i=>st.length-i) 0 ?_ ⟨by omega,fun j hj=>by rw[show j=0 by omega];exact z1⟩ ?_
  ·
   refine WZ ?_
   all_goals first
    |rfl
    |(
     rw[Iv];refine AV fun q hq=> ?_;rw[A5 z2];unfold sU kW
     rw[List.range_zero,ae3,Bool.and_false])
  rintro i ⟨hi,dQ⟩;have O6:=Iu 144 (sU L st (i+1));by_cases hil:i+1<st.length
  ·have hpi:=hpr (i+1) hil
   have hPi:=hP i hil;by_cases h0:0<=iH L st (i+1)
   ·rw[aa7 (by omega)]at hPi
    have hd:=Dc h0;have hg2:(oJ 144 (sU L st (i+1))).getD ((L.ay.length:Int)+iH L st (i+1)).toNat false=kW L st (i+1) (iH L st (i+1)).toNat:=by
     rw[show((L.ay.length:Int)+iH L st (i+1)).toNat=L.ay.length+(iH L st (i+1)).toNat by omega,← IA];exact It (by omega)
    by_cases hs:kW L st (i+1) (iH L st (i+1)).toNat=true
    ·rw[hs]at hg2 hd
     rw[aa8 (GB hil hd)];repeat'(first|with_reducible(first|refine aa ?_ ?_|exact⟨⟩|exact bj.nil _|refine DQ ?_|assumption|refine ao ?_|refine av ?_|exact VQ|exact BQ)|((with_reducible apply aA);refine an (hPi) rfl ?_)|((with_reducible apply ah);refine ag rfl ?_ ?_;all_goals(intro hbq;(try simp only[bq,hg2]at hbq);(try(exfalso;omega))))|refine RQ ?_|(intro(aX:(_:Bool)=true);(try simp only[bq]at aX))|((with_reducible apply cF);simp only[bq])|omega)
     all_goals rfl
    ·have hs:kW L st (i+1) (iH L st (i+1)).toNat=false:=by simpa using hs
     rw[hs]at hg2 hd
     repeat'(first|with_reducible(first|refine aa ?_ ?_|exact⟨⟩|refine DQ ?_|assumption|refine ao ?_|refine av ?_|exact VQ|exact BQ)|((with_reducible apply aA);refine an (hPi) rfl ?_)|((with_reducible apply ah);refine ag rfl ?_ ?_;all_goals(intro hbq;(try simp only[bq,hg2]at hbq);(try(exfalso;omega))))|refine RQ ?_|(intro(aX:(_:Bool)=true);(try simp only[bq]at aX))|((with_reducible apply cF);simp only[bq])|omega)
     ·rfl
     ·
      refine LY (i+1) (⟨by omega,bM dQ hd⟩) ?_
      all_goals(
       rw[show((L.ay.length:Int)+iH L st (i+1)).toNat=L.ay.length+(iH L st (i+1)).toNat by omega];refine Iw (i:=L.ay.length+(iH L st (i+1)).toNat) ?_ fun q hq hne=> ?_
       ·rw[IA,kC,decide_eq_true (show iH L st (i+1)=((iH L st (i+1)).toNat:Int)by omega),ae4]
       ·unfold sU
        by_cases hlq:L.ay.length<=q
        ·rw[kC,decide_eq_false (show ¬ iH L st (i+1)=((q-L.ay.length:Nat):Int)by omega),acY]
        ·rw[decide_eq_false hlq,acU,acU])
   ·rw[aa8 (by omega)]at hPi
    have hd:oe L st (i+1)=false:=by unfold oe;rw[decide_eq_false h0,acU]
    repeat'(first|with_reducible(first|refine aa ?_ ?_|exact⟨⟩|(apply q_L;intro hbq))|((with_reducible apply aA);refine an (hPi) rfl ?_)|(intro(aX:(_:Bool)=true);(try simp only[bq]at aX))|refine AZ ?_|fail)
    ·
     refine LY (i+1) (⟨by omega,bM dQ hd⟩) ?_
     all_goals(
      refine AV fun q hq=> ?_
      exact(A5 (i:=i+1) (by omega) q).symm)
  ·have hie:st.length=i+1:=by omega
   rw[LI (fun j hj=>dQ j (by omega)),aa7 (by decide)];refine AZ ?_;repeat' first|apply aa|intro hbq
   all_goals rfl
 ·rw[aa8 h]
  unfold cc at hF⊢;refine FQ afe ?_;repeat'(first|with_reducible(first|refine aa ?_ ?_|exact⟨⟩|(apply q_L;intro hbq))|((with_reducible apply aA);refine an (hF) rfl ?_)|refine AZ ?_|fail)
  all_goals rfl
def RL (st:List bX) (ov:Int) (h24:st.length<=24) (h0:0<=ov/\ov<=st.length) (a b:Nat) (hab:a<b) (hb:(b:Int)<=st.length-ov-1):cC abg 78 [sX st ov,.c (xI a),.c (xI b)] [] (sX (fP st ov a b).st (fP st ov a b).ov) []:=by
 have tC:=re st ov (by omega) (by omega);unfold fP;by_cases e:(b:Int)=st.length-ov-1
 ·rw[aa8 e]
  have hd:(st.drop (a:Int).toNat).length<=24:=by rw[abP];omega
  refine PQ aff ?_;repeat'(first|with_reducible(first|refine aa ?_ ?_|exact⟨⟩|(apply q_L;intro hbq))|((with_reducible apply aA);refine an (tC) rfl ?_)|(intro _;exact rfl)|refine AZ ?_|fail)
  all_goals first|omega|rfl
 ·rw[aa7 e]
  have hd:((st.drop (a:Int).toNat).take ((b:Int)+1-a).toNat).length<=24:=by rw[abk,abP];omega
  have he:((b:Int)+1-a).toNat=b+1-a:=by omega
  refine PQ aff ?_;repeat'(first|with_reducible(first|refine aa ?_ ?_|exact⟨⟩|(apply q_L;intro hbq))|((with_reducible apply aA);refine an (tC) rfl ?_)|(intro _;exact rfl)|refine AZ ?_|fail)
  all_goals first|omega|(rw[he];rfl)
def Oj (L:cg) (hL:cP L) (st:List bX) (ov:Int) (hl:st.length<=9223372036854775807) (ho: -9223372036854775808<=ov/\ov<=9223372036854775807) (nm:ByteArray) (l sp ac br a b:Int) (h: ¬ qU L st ov l sp ac br a b=0):cC abg 43 [cc L,sX st ov,sY nm l sp ac br,.c (xI a),.c (xI b)] [] (.dt [.agg Wy,.c (xI (qU L st ov l sp ac br a b))]) []:=by
 have hF:=AK L hL st ov hl ho nm l sp ac br;unfold qU at h⊢;by_cases hm:fl L ⟨st,ov⟩ l sp ac br=0
 ·have hR:=dq (gB (nM (wt hm).1).1)
  have g1:=hR.rS;have g2:=hR.ov;have g3:=hR.len;have g4:=hR.two;simp only at g1 g2 g3 g4;have tC:=re st ov hl (by omega);rw[hm]at hF h⊢
  rw[aa7 (by decide)]at h⊢
  have hc:a<0\/b<=a\/(st.length:Int)-ov-1<b:=adC fun hn=>h (aa7 hn);rw[aa8 hc];unfold cc at hF⊢;refine PQ ad9 ?_;repeat'(first|with_reducible(first|refine aa ?_ ?_|exact⟨⟩|(apply q_L;intro hbq))|((with_reducible apply aA);refine an (hF) rfl ?_)|((with_reducible apply bu);refine bt ((fun _=>tC)) rfl ?_ ?_)|(intro(aX:(_:Bool)=_);(try simp only[bq]at aX))|(simp only[aX,bq];done)|refine AZ ?_|fail)
  all_goals rfl
 ·rw[aa8 hm]
  unfold cc at hF⊢;refine PQ ad9 ?_;repeat'(first|with_reducible(first|refine aa ?_ ?_|exact⟨⟩|(apply q_L;intro hbq))|((with_reducible apply aA);refine an (hF) rfl ?_)|refine AZ ?_|fail)
  all_goals rfl
def rf (L:cg) (hL:cP L) (st:List bX) (ov:Int) (hl:st.length<=9223372036854775807) (ho: -9223372036854775808<=ov/\ov<=9223372036854775807) (nm:ByteArray) (l sp ac br:Int) (a b:Nat) (hm:fl L ⟨st,ov⟩ l sp ac br=0) (hab:a<b) (hb:(b:Int)<=st.length-ov-1):cC abg 43 [cc L,sX st ov,sY nm l sp ac br,.c (xI a),.c (xI b)] [] (.dt [.agg (BM L (fP st ov a b) l sp ac br a b),.c (xI 0)]) []:=by
 have hF:=AK L hL st ov hl ho nm l sp ac br;have h:=(wt hm).1;have hR:=dq (gB (nM h).1);have g1:=hR.rS;have g2:=hR.ov;have g3:=hR.len;simp only at g1 g2 g3;have hf:=rT h hab hb;have hpl:=CZ h hab hb;have tC:=re st ov (by omega) (by omega);have hPt:=RL st ov (by omega) (by omega) a b hab hb;have Kb:(fP st ov a b).st.length<=24:=by unfold fP;split<;>simp only[abk,abP]<;>omega
 have ZB:(fP st ov a b).ov=if(b:Int)=st.length-ov-1 then ov else 0:=by unfold fP;split<;>rfl
 have hov: ∀ n,Rs L (fP st ov a b) l sp ac br n=if(b:Int)=st.length-ov-1/\0<ov then lJ L (fP st ov a b) l sp ac br n / 1000-16 else 0:=fun n=>by
  unfold Rs;rw[ZB];by_cases e:(b:Int)=st.length-ov-1
  ·rw[aa8 e]
   by_cases e2:0<ov
   ·rw[aa8 e2,aa8 ⟨e,e2⟩]
   ·rw[aa7 e2,aa7 (fun h=>e2 h.2)]
  ·rw[aa7 e,aa7 (by decide),aa7 (fun h=>e h.1)]
 rw[hm]at hF
 clear hR;unfold BM;rw[hov];clear hov;have hpb: -9223372036854775808<=(fP st ov a b).ov/\(fP st ov a b).ov<=9223372036854775807:=by rw[ZB];split<;>omega
 generalize fP st ov a b=pr at*;obtain⟨ps,po⟩:=pr;simp only at hPt Kb hpb;have hT:=Ky L hL ps po (by omega) hpb nm l sp ac br hf;have L3:=pN hf;have Qx:=aU (cD ⟨ps,po⟩).length fun k=>gJ L ⟨ps,po⟩ l sp ac br (bx L (cD ⟨ps,po⟩) (k-1));have Qy:=aU (cD ⟨ps,po⟩).length (lO L ⟨ps,po⟩ l sp ac br);change (vY L ⟨ps,po⟩ l sp ac br (cD ⟨ps,po⟩).length).length=_ at Qx;change (wq L ⟨ps,po⟩ l sp ac br (cD ⟨ps,po⟩).length).length=_ at Qy;have Bn: ∀ k,k<b-a+1->(vY L ⟨ps,po⟩ l sp ac br (cD ⟨ps,po⟩).length).getD k 0=lJ L ⟨ps,po⟩ l sp ac br k/\0<=lJ L ⟨ps,po⟩ l sp ac br k/\lJ L ⟨ps,po⟩ l sp ac br k<=80000000:=fun k hk=>⟨c9 (by omega),(jQ L3 (by omega)).1,(jQ L3 (by omega)).2.1⟩;have NL: ∀ k,k<b-a+1->(wq L ⟨ps,po⟩ l sp ac br (cD ⟨ps,po⟩).length).getD k 0=lO L ⟨ps,po⟩ l sp ac br k/\0<=lO L ⟨ps,po⟩ l sp ac br k/\lO L ⟨ps,po⟩ l sp ac br k<=80000000:=fun k hk=>⟨c9 (by omega),(jQ L3 (by omega)).2.2⟩;have hN: ∀ k,k<b-a+1->xp L ⟨ps,po⟩ l sp ac br k=(lJ L ⟨ps,po⟩ l sp ac br k) / 1000-16:=fun k hk=>rfl;have hPa: ∀ k,xq L ⟨ps,po⟩ l sp ac br k=(lJ L ⟨ps,po⟩ l sp ac br (k+1)) / 1000:=fun k=>rfl;have hCl: ∀ k,Gy L ⟨ps,po⟩ l sp ac br k=(lO L ⟨ps,po⟩ l sp ac br k+999) / 1000+4:=fun k=>rfl;clear L3 hf;generalize xp L ⟨ps,po⟩ l sp ac br=F1 at*;generalize xq L ⟨ps,po⟩ l sp ac br=F2 at*;generalize Gy L ⟨ps,po⟩ l sp ac br=F3 at*;generalize lJ L ⟨ps,po⟩ l sp ac br=E1 at*;generalize lO L ⟨ps,po⟩ l sp ac br=E2 at*;generalize vY L ⟨ps,po⟩ l sp ac br (cD ⟨ps,po⟩).length=es at*;generalize wq L ⟨ps,po⟩ l sp ac br (cD ⟨ps,po⟩).length=lv at*;generalize m8 L ⟨ps,po⟩ l sp ac br=run at*;have Qx:es.length=b-a+1:=Qx.trans hpl;have Qy:lv.length=b-a+1:=Qy.trans hpl;clear hpl ZB;unfold cc at hF hT⊢;refine PQ ad9 ?_;repeat'(first|with_reducible(first|refine aa ?_ ?_|exact⟨⟩|(apply q_L;intro hbq))|((with_reducible apply aA);first|refine an (hF) rfl ?_|refine an (hPt) rfl ?_|refine an (hT) rfl ?_)|((with_reducible apply bu);refine bt ((fun _=>tC)) rfl ?_ ?_)|(intro(aX:(_:Bool)=_);(try simp only[bq]at aX))|(simp only[aX,bq];done)|refine AZ ?_|fail)
 clear hF hT hPt;refine aI (fun k:Nat=>SS [sI 4 b,sC 6 (pB 1),sC 10 (pB 3),sC 13 (fG es),sC 14 (fG lv),sC 17 (pB 4),sI 18 ((b:Int)-a),sI 19 k] [none,n9 st ov,none,some (.cells [xI 0,xI 0,.c (.f .aD),.c (.f .aD),.c (.f .aD),xI 0,xI 0]),some (.cells [xI a,xI b,pT (row k F1),pT (row k F2),pT (row k F3),xI 0,xI run])]) (fun k=>k<=b-a) (fun k=>b-a-k) 0 ?_ (by omega) ?_
 ·
  refine WZ ?_;repeat' with_reducible(first|refine aa ?_ ?_|exact⟨⟩|fail)
  all_goals rfl
 intro k hk;have q1:=aU k F1;have q2:=aU k F2;have q3:=aU k F3;have m1:es.getD (k:Int).toNat 0=E1 k:=(Bn k (by omega)).1;have m2:=(Bn k (by omega)).2;have n1:lv.getD (k:Int).toNat 0=E2 k:=(NL k (by omega)).1;have n2:=(NL k (by omega)).2;by_cases Jb:k<b-a
 ·have m3:es.getD ((k:Int)+1).toNat 0=E1 (k+1):=(Bn (k+1) (by omega)).1
  have m4:=(Bn (k+1) (by omega)).2;repeat'(first|with_reducible(first|refine aa ?_ ?_|exact⟨⟩|(apply q_L;intro hbq))|refine AZ ?_|fail)
  ·
   refine LZ (k+1) ?_;repeat' with_reducible(first|refine aa ?_ ?_|exact⟨⟩|fail)
   ·rw[el k F1,hN k (by omega),m1];simp[fk,fI]
   ·rw[aU,aU]
   ·rw[el k F2,hPa k,m3];simp[fk,fI]
   ·rw[aU,aU]
   ·rw[el k F3,hCl k,n1];simp[fk,fI]
   ·rw[aU,aU]
 ·have xW:k=b-a:=by omega
  subst xW;have e3:es.getD ((b:Int)-a).toNat 0=E1 (b-a):=by rw[← m1];congr 1;omega
  by_cases e:(b:Int)=st.length-ov-1/\0<ov
  ·rw[aa8 e]
   repeat'(first|with_reducible(first|refine aa ?_ ?_|exact⟨⟩|(apply q_L;intro hbq))|((with_reducible apply aA);refine an (tC) rfl ?_)|(intro(aX:(_:Bool)=true);(try simp only[bq]at aX))|refine AZ ?_|fail)
   all_goals first
    |(rw[e3];omega)
    |(rw[e3];rfl)
  ·rw[aa7 e]
   repeat'(first|with_reducible(first|refine aa ?_ ?_|exact⟨⟩|(apply q_L;intro hbq))|((with_reducible apply aA);refine an (tC) rfl ?_)|(intro(aX:(_:Bool)=true);(try simp only[bq]at aX))|refine AZ ?_|fail)
   all_goals first
    |rfl
    |(exfalso;omega)
def As (s:bX):cC abg 190 [Ds s] [] (vI (nN s.dir)) []:=by
 unfold nN;refine FQ Tryz.func190 ?_;refine AY ?_;repeat' first|apply aa|intro hbq
 ·rw[aa8 hbq]
  repeat'(first|with_reducible(first|refine KQ ?_|exact⟨⟩)|refine lC.c ?_|fail)
 ·rw[aa7 hbq]
  repeat'(first|with_reducible(first|refine KQ ?_|exact⟨⟩)|refine lC.c ?_|fail)
def QR (s t:bX) (k:fe):Bool:=
 decide (((k.a=s.sec/\k.ae=nN s.dir)/\k.b=t.sec)/\ ¬ k.be=nN t.dir)||decide (((k.b=s.sec/\k.be=nN s.dir)/\k.a=t.sec)/\ ¬ k.ae=nN t.dir)
def Yu:fe:=⟨0,0,0,0,-1,0⟩
def tF (L:cg) (s t:bX):fe:=(L.aE.find? (QR s t)).getD Yu
def Gi (L:cg) (s t:bX) (hlen:L.aE.length<=4611686018427387904):cC abg 189 [cc L,Ds s,Ds t] [] (.agg (yb (tF L s t))) []:=by
 have c1:=As s;have c2:=As t;unfold cc;refine PQ Tryz.func189 ?_;repeat'(first|with_reducible(first|refine aa ?_ ?_|exact⟨⟩)|refine AY ?_|fail)
 refine aI (fun i:Nat=>SS [sC 4 (pB 1),sC 5 (pB 2),sC 6 (pB 3),sC 12 (kB L.aE),sI 13 L.aE.length,sI 14 i] [none,some (.cells [xI s.sec,xI s.dir]),some (.cells [xI t.sec,xI t.dir]),some (.cells [xI 0,xI 0,xI 0,xI 0,xI 0,xI 0])]) (fun i=>i<=L.aE.length/\ ∀ j,j<i->QR s t (L.aE.getD j bD)=false) (fun i=>L.aE.length-i) 0 ?_ ⟨by omega,fun j hj=>by omega⟩ ?_
 ·
  refine WZ ?_;repeat' with_reducible(first|refine aa ?_ ?_|exact⟨⟩|fail)
 ·intro i hi
  obtain⟨hi,dQ⟩:=hi;repeat'(first|with_reducible(first|refine aa ?_ ?_|exact⟨⟩|(apply q_L;intro hbq))|((with_reducible apply bu);refine bt ((fun _=>c1)) rfl ?_ ?_)|((with_reducible apply bu);refine bt ((fun _=>c2)) rfl ?_ ?_)|(intro(aX:(_:Bool)=_);(try simp only[bq]at aX))|(simp only[aX,bq];done)|refine AY ?_|fail)
  ·have hf:=kG (p:=QR s t) (d:=bD) (l:=L.aE) (i:=i) (by omega) (by unfold QR;simp only[abz,decide_eq_true_eq];exact hbq) dQ
   unfold tF;rw[hf];rfl
  ·
   refine LY (i+1) (⟨by omega,bM dQ (by unfold QR;simp only[aea,decide_eq_false_iff_not,afm,acR];exact hbq)⟩) ?_;repeat' with_reducible(first|refine aa ?_ ?_|exact⟨⟩|fail)
  ·have hf:=pg (p:=QR s t) (d:=bD) (l:=L.aE) (fun j hj=>dQ j (by omega))
   unfold tF;rw[hf];rfl
def UM {L:cg} (hv:bH L=0) {s t:bX} (hs:s.dir=0\/s.dir=1) (ht:t.dir=0\/t.dir=1) {k:fe} (hk:k∈L.aE):QR s t k=rv s t k:=by
 have⟨l1,l2,l3,l4,l5,l6,l7,l8,_⟩:=jL ((dJ hv).v4 k hk);have e: ∀ x:Int,0<=x->x<=1->(¬ x=nN t.dir↔x=nN (wD t.dir)):=fun x h0 h1=>by
  unfold nN wD;rcases ht with h|h<;>rw[h]<;>simp<;>omega
 unfold QR rv;have h1:=e k.be l7 l8;have h2:=e k.ae l5 l6;rw[aew];simp only[abz,decide_eq_true_eq,h1,h2];constructor
 ·rintro(⟨⟨⟨a,b⟩,c⟩,d⟩|⟨⟨⟨a,b⟩,c⟩,d⟩)
  ·exact .inl ⟨⟨a,b⟩,c,d⟩
  ·exact .inr ⟨⟨c,d⟩,a,b⟩
 ·rintro(⟨⟨a,b⟩,c,d⟩|⟨⟨a,b⟩,c,d⟩)
  ·exact .inl ⟨⟨⟨a,b⟩,c⟩,d⟩
  ·exact .inr ⟨⟨⟨c,d⟩,a⟩,b⟩
def vL {r:SV} {H':SH} {e:bN} {l:SL} {ys:List ST} (hy:Vn nX l H fn.results.toList e=some ys) (hp:(sT ys).den.aZ=r.den) (hH:bj H H'):M9 abg fn r.den (bh H') e (SS l H):=by
 refine⟨(sT ys).den,?_,hp⟩;obtain⟨h1,rfl|rfl⟩:=MB hy
 ·exact nZ ff trivial rfl h1 rfl hH
 ·exact nZ ff trivial rfl h1 rfl hH
def ij {γ:Type} {I:γ->Prop} {rs:γ->SV} {Hs:γ->SH} {e:bN} {l:SL} {ys:List ST} (hy:Vn nX l H fn.results.toList e=some ys) (x:γ) (hx:I x) (hp:(sT ys).den.aZ=(rs x).den) (hH:bj H (Hs x)):Pn abg fn I rs Hs e (SS l H):=⟨x,hx,vL hy hp hH⟩
def DN {γ:Type} {I:γ->Prop} {rs:γ->SV} {e:bN} {l:SL} {v:SV} {p:Prop} (hy:fzE nX l H fn.results.toList e=some ⟨[],[(0,.v v)],[],.plain (fun _=>True),p⟩) (x:γ) (hx:I x) (hq:p) (hp:v.den=(rs x).den):Ld abg fn I rs e (SS l H):=by
 refine⟨x,hx,?_⟩;obtain⟨h1,rfl|rfl⟩:=Qw hy
 ·exact vM ff trivial rfl h1 hq hp
 ·exact vM ff trivial rfl h1 hq hp
def oW {ops:Array Oper} {rest:List Oper} {l:SL} {R:Rg} (d:Nat) (v:SE) (hv:(SS l H).sl d=v.den) (h:WR abg ops rest (SS ((d,v)::l) H) R):WR abg ops rest (SS l H) R:=by
 have e:SS ((d,v)::l) H=SS l H:=by
  rw[← oT];unfold St.put;simp only;show St.mk _ _=St.mk _ _;congr 1;funext i;show fq (SS l H).sl d v.den i=(SS l H).sl i;unfold fq;split
  next hi=>
   rw[hi,hv]
  ·rfl
 rwa [e]at h
def cK {P:Program} {ops:Array Oper} {rest:List Oper} {d:Option Tmp} {ty:TypeId} {pos:String} {af:Array Edge} {l:SL} {H:SH} {R:Rg} {c:Call} {f:FuncId} {vs ws:List SV} {Hs Hs' Gs Gs':SH} {r r':SV} {l':SL} {H':SH} (bs:List Nat) (hO:cC P f vs Hs r Hs')
  (hc:dn ⟨d,.call c,ty,pos,af,none⟩=some (f,c.args.toList)) (ha:wT (nV l) c.args.toList=some ws) (hv:AN (j9 H bs) vs=some ws) (hg:zM H bs=some Gs) (hr1:g9 (j9 H bs) Hs=some Gs) (BE:g9 (j9 H bs) Hs'=some Gs') (Yg:E8 (j9 H bs) r=some r')
  (hn:tN bs=true) (h4:BP Hs.length vs=true) (h5:j7 Hs.length Hs=true) (h6:j7 Hs'.length Hs'=true) (hP:E3 H bs Gs' (fun H'=>some ⟨[],[],H',.plain (fun _=>True),True⟩)=some ⟨[],[],H',.plain (fun _=>True),True⟩)
  (hl:(match d with|some d=>some ((d,SE.v r')::l)|none=>some l)=some l') (hb:Hs'.length=bs.length)
  (h:WR P ops rest (SS l' H') (R.push ⟨bs,[],bs,none,false,false⟩)):WR P ops (⟨d,.call c,ty,pos,af,none⟩::rest) (SS l H) R:=
 bY bs hO hc ha hv hg hr1 BE Yg hn h4 h5 h6 hP hl (by rw[aa8 hb];exact h)
structure Cb where
 se:List Int
 po:List Int
 bo:List ByteArray
 ay:List fH
 aE:List fe
 st:List bX
 es:List (List Int×Int)
def cb0:Cb:=⟨[],[],[],[],[],[],[]⟩
def lj (L:cg) (st:List bX) (b:Cb) (i:Nat):Cb:=
 let s:=st.getD i bm;let sc:=L.ay.getD s.sec.toNat dD;let ay:=b.ay++[⟨sc.nm,sc.len,sc.su,sc.oO,-1⟩];let ss:=b.st++[⟨(i:Int),s.dir⟩];let se:=b.se++[s.sec]
 if i=0 then{ b with se:=se,po:=b.po++[-1],ay:=ay,st:=ss }else
  let p:=st.getD (i-1) bm;let u:=tF L p s;let k:fe:=⟨(i:Int)-1,nN p.dir,i,1-nN s.dir,-1,0⟩
  if u.pt<0 then{ b with se:=se,po:=b.po++[-1],ay:=ay,st:=ss,aE:=b.aE++[k] }else
   let es:=match cH b.es [u.pt]with
    |some _=>b.es
    |none=>IY b.es [u.pt] b.bo.length
   let bo:=match cH b.es [u.pt]with
    |some _=>b.bo
    |none=>b.bo++[L.bo.getD u.pt.toNat ⟨#[]⟩]
   { b with se:=se,po:=b.po++[(L.ay.length:Int)+u.pt],ay:=ay,st:=ss,aE:=b.aE++[{ k with pt:=(cH es [u.pt]).getD 0,ps:=u.ps }],es:=es,bo:=bo }
def o7 (L:cg) (st:List bX):Nat->Cb
 |0=>cb0
 |i+1=>lj L st (o7 L st i) i
def oa (L:cg) (st:List bX) (ov:Int):rZ:=
 let b:=o7 L st st.length
 ⟨b.se,b.po,st.length-ov-1,⟨[],b.bo,b.ay,b.aE⟩,b.st,ov⟩
structure Stop (p:Prop):Prop where
 out:p
def b8 {P:Program} {D:Array Oper->St->(St->Prop)->Prop} {n0:Nat} {ops:Array Oper} {b:Bool} {s:St} {K:bN->St->Prop} (h:Stop (W P D n0 (.region n ops b) s K)):W P D n0 (.region n ops b) s K:=h.out
def D7 (L:cg) (st:List bX) (i:Nat):(o7 L st i).se.length=i/\(o7 L st i).po.length=i/\(o7 L st i).ay.length=i/\(o7 L st i).st.length=i/\(o7 L st i).aE.length<=i/\(o7 L st i).bo.length<=i:=by
 induction i with
 |zero=>simp[o7,cb0]
 |succ i ih=>
  have⟨h1,h2,h3,h4,h5,h6⟩:=ih;unfold o7 lj;dsimp only;split
  ·simp;omega
  ·split
   ·simp;omega
   ·cases cH (o7 L st i).es [(tF L (st.getD (i-1) bm) (st.getD i bm)).pt]<;>simp<;>omega
def WN {L:cg} {r:jB} (h:qm L r) {i:Nat} (hi:i<r.st.length):(r.st.getD i bm).ok L=true:=by
 exact fU h.ok hi
def qA (L:cg) (st:List bX) (b:Cb) {i:Nat} (h:i=0):{ b with se:=b.se++[(st.getD i bm).sec],po:=b.po++[-1],ay:=b.ay++[⟨(L.ay.getD (st.getD i bm).sec.toNat dD).nm,(L.ay.getD (st.getD i bm).sec.toNat dD).len,(L.ay.getD (st.getD i bm).sec.toNat dD).su,(L.ay.getD (st.getD i bm).sec.toNat dD).oO,-1⟩],st:=b.st++[⟨(i:Int),(st.getD i bm).dir⟩] }=lj L st b i:=by
 unfold lj;rw[aa8 h]
def qB (L:cg) (st:List bX) (b:Cb) {i:Nat} (h:i≠0):lj L st b i=
  if(tF L (st.getD (i-1) bm) (st.getD i bm)).pt<0 then{ b with se:=b.se++[(st.getD i bm).sec],po:=b.po++[-1],ay:=b.ay++[⟨(L.ay.getD (st.getD i bm).sec.toNat dD).nm,(L.ay.getD (st.getD i bm).sec.toNat dD).len,(L.ay.getD (st.getD i bm).sec.toNat dD).su,(L.ay.getD (st.getD i bm).sec.toNat dD).oO,-1⟩],st:=b.st++[⟨(i:Int),(st.getD i bm).dir⟩],aE:=b.aE++[⟨(i:Int)-1,nN (st.getD (i-1) bm).dir,i,1-nN (st.getD i bm).dir,-1,0⟩] }else
  { b with se:=b.se++[(st.getD i bm).sec],po:=b.po++[(L.ay.length:Int)+(tF L (st.getD (i-1) bm) (st.getD i bm)).pt],ay:=b.ay++[⟨(L.ay.getD (st.getD i bm).sec.toNat dD).nm,(L.ay.getD (st.getD i bm).sec.toNat dD).len,(L.ay.getD (st.getD i bm).sec.toNat dD).su,(L.ay.getD (st.getD i bm).sec.toNat dD).oO,-1⟩],st:=b.st++[⟨(i:Int),(st.getD i bm).dir⟩],
           es:=match cH b.es [(tF L (st.getD (i-1) bm) (st.getD i bm)).pt]with
             |some _=>b.es
             |none=>IY b.es [(tF L (st.getD (i-1) bm) (st.getD i bm)).pt] b.bo.length,
           bo:=match cH b.es [(tF L (st.getD (i-1) bm) (st.getD i bm)).pt]with
             |some _=>b.bo
             |none=>b.bo++[L.bo.getD (tF L (st.getD (i-1) bm) (st.getD i bm)).pt.toNat ⟨#[]⟩],
           aE:=b.aE++[⟨(i:Int)-1,nN (st.getD (i-1) bm).dir,i,1-nN (st.getD i bm).dir,(cH (match cH b.es [(tF L (st.getD (i-1) bm) (st.getD i bm)).pt]with
             |some _=>b.es
             |none=>IY b.es [(tF L (st.getD (i-1) bm) (st.getD i bm)).pt] b.bo.length) [(tF L (st.getD (i-1) bm) (st.getD i bm)).pt]).getD 0,(tF L (st.getD (i-1) bm) (st.getD i bm)).ps⟩] }:=by
  rw[lj,aa7 h]
def QS {L:cg} (hV:Valid L) (s t:bX):(tF L s t).pt<L.bo.length:=by
 unfold tF;cases h:L.aE.find? (QR s t)with
 |none=>simp[Yu];omega
 |some k=>
  have:=(jL (hV.v4 k (adL h)));simp only[acF];omega
def T5 (L:cg) (st:List bX) (i:Nat):Mu 1 (o7 L st i).es:=by
 induction i with
 |zero=>exact ET
 |succ i ih=>
  unfold o7 lj;dsimp only;split
  ·exact ih
  ·split
   ·exact ih
   ·cases cH (o7 L st i).es [(tF L (st.getD (i-1) bm) (st.getD i bm)).pt]
    ·exact AA ih rfl
    ·exact ih
def EN (L:cg) (hL:cP L) (st:List bX) (ov:Int) (h:dA L ⟨st,ov⟩=0):cC abg 146 [cc L,sX st ov] [] (.agg (VO (oa L st ov))) []:=by
 have hr:=dq h;have hlen:=hr.len;have g1:=hr.rS;have g2:=hr.ov;have g3:=hr.two;have hV:=dJ hr.lay;simp only at hlen g1 g2 g3;have l1:=hV.n4;have l2:=hV.n3;have l4:=hV.n2;have l3:=hL.m3;have c3: ∀ s t,cC abg 189 [cc L,Ds s,Ds t] [] (.agg (yb (tF L s t))) []:=fun s t=>Gi L s t (by omega);have c1:=As;unfold cc at c3⊢;refine PQ Tryz.func146 ?_;repeat'(first|with_reducible(first|refine aa ?_ ?_|exact⟨⟩)|refine RQ ?_|omega)
 refine aI (fun i:Nat=>SS [sC 2 (pB 0),sC 3 (pB 1),sC 4 (pB 2),sC 5 (pB 3),sC 6 (.c (.mh 4)),sC 27 (ly st),sI 28 st.length,sI 29 i] [some (.cells [eP L.ct,eP L.bo,lV L.ay,kB L.aE]),n9 st ov,some (.cells [.c (.f .aD),.c (.f .aD),xI 0,.c (.f .aD),.c (.f .aD),.c (.f .aD),.c (.f .aD),.c (.f .aD),xI 0]),some (.cells [pT (o7 L st i).se,aev (o7 L st i).po,xI (st.length-ov-1),.c (.f .aD),pU (o7 L st i).bo,BX (o7 L st i).ay,BW (o7 L st i).aE,aeK (o7 L st i).st,xI ov]),mpI (o7 L st i).es]) (fun i=>i<=st.length) (fun i=>st.length-i) 0 ?_ (by omega) ?_
 ·
  refine WQ ?_ ?_<;>repeat'(first|with_reducible(first|refine KQ ?_|refine aa ?_ ?_|exact⟨⟩)|refine aw rfl ?_ ?_|exact aG.ak|exact aG.az|exact(rfl:known _=_)|omega)
  all_goals rfl
 intro i hi;have⟨n1,n2,n3,n4,n5,n6⟩:=D7 L st i;by_cases hil:i<st.length
 ·have mq: ∀ C:Cb,C=lj L st (o7 L st i) i->C=o7 L st (i+1):=fun C h=>h
  generalize hb:o7 L st i=b at*;have hK:Mu 1 b.es:=by rw[← hb];exact T5 L st i
  have s1:0<=(st.getD (i:Int).toNat { sec:=0,dir:=0 }).sec/\(st.getD (i:Int).toNat { sec:=0,dir:=0 }).sec<L.ay.length:=⟨(fm (WN hr hil)).1,(fm (WN hr hil)).2.1⟩;have s2: ∀ d,0<=nN d/\nN d<=1:=fun d=>by unfold nN;split<;>omega
  have s3:=s2 (st.getD (i:Int).toNat { sec:=0,dir:=0 }).dir;have e1:(i:Int).toNat=i:=by omega
  repeat'(first|with_reducible(first|refine aa ?_ ?_|exact⟨⟩|refine DQ ?_|assumption)|((with_reducible apply aA);first|refine an (c3 _ _) rfl ?_|refine an (c1 _) rfl ?_)|((with_reducible apply b8 (n:=15)))|with_reducible(first|refine ao ?_|refine av ?_)|((with_reducible apply ah);refine ag rfl ?_ ?_;all_goals(intro hbq;(try simp only[bq]at hbq);(try(exfalso;omega))))|refine RQ ?_|((with_reducible apply aJ);exact fun _=>⟨rfl,rfl⟩)|((with_reducible apply aW);kernel_rfl)|((with_reducible apply bG);rfl)|((with_reducible apply qh);exact rfl)|omega)
  ·
   have hC:=mq _ (qA L st b (show i=0 by omega));refine ax (i+1) ?_ ((by omega)) (by(try dsimp only);omega);refine WQ ?_ ?_<;>repeat'(first|with_reducible(first|refine KQ ?_|refine aa ?_ ?_|exact⟨⟩)|refine aw rfl ?_ ?_|exact(rfl:known _=_)|omega)
   all_goals(rw[← hC];try(first|rfl|simp[fk,v5,v7,fI,fS,e1]))
  ·apply Stop.mk
   refine aT (aY ?_);refine db rfl ⟨⟨trivial,trivial⟩,trivial⟩ (cN ?_);have e2:((i:Int)-1).toNat=i-1:=by omega
   have hi0:i≠0:=by omega
   have hC:=mq _ rfl;rw[qB L st b hi0]at hC
   rw[e1,e2];rw[e1]at s1 s3
   have Tn:(tF L (st.getD (i-1) bm) (st.getD i bm)).pt<L.bo.length:=QS hV _ _;change _=_ at hC;generalize hu:tF L (st.getD (i-1) bm) (st.getD i bm)=u at*;by_cases hp:u.pt<0
   ·rw[aa8 hp]at hC
    refine dI ?_;repeat'(first|with_reducible(first|refine aa ?_ ?_|exact⟨⟩|refine DQ ?_|fail)|((with_reducible apply ah);refine ag rfl ?_ ?_;all_goals(intro hbq;(try simp only[bq]at hbq);(try(exfalso;omega))))|refine RQ ?_|((with_reducible apply bG);rfl)|omega)
    refine ax (i+1) ?_ ((by omega)) (by(try dsimp only);omega);refine WQ ?_ ?_<;>repeat'(first|with_reducible(first|refine KQ ?_|refine aa ?_ ?_|exact⟨⟩)|refine aw rfl ?_ ?_|exact(rfl:known _=_)|omega)
    all_goals skip
    all_goals(rw[← hC];try(first|rfl|simp[fk,v5,v7,xR,fI,fS,e1]))
   ·rw[aa7 hp]at hC
    have hP:(b.po++[-1]).length=i+1:=by simp;omega
    refine KM _ (TK (z:=1) (F:=fk) (V:=x9) (M:=BN) (d:=0) (ls:=b.po++[-1]) (n:=9) 3 1 rfl rfl (by simp) (fun _=>rfl) rfl rfl) ?_;rintro⟨cap,hcap⟩;have aaY:=hcap;rw[hP]at aaY
    repeat'(first|with_reducible(first|exact VQ|refine aa ?_ ?_|exact⟨⟩|refine DQ ?_|fail)|((with_reducible apply b8 (n:=17)))|with_reducible(refine ao ?_)|((with_reducible apply ah);refine ag rfl ?_ ?_;all_goals(intro hbq;(try simp only[bq]at hbq);(try(exfalso;omega))))|refine RQ ?_|omega)
    rotate_right
    ·apply Stop.mk
     refine aT (aY ?_);refine db rfl ?_ (cN ?_)
     ·repeat'(first|exact⟨⟩|exact hK|apply acP|exact⟨1,fun _=>⟨rfl,rfl⟩⟩|rfl)
     refine jq _ (F4 (z:=1) (F:=fk) (V:=x9) (M:=BN) (d:=0) (r:=(b.po++[-1]).set (i:Int).toNat ((L.ay.length:Int)+u.pt)) (m:=(cap-(b.po++[-1]).length)*1) (H':=_) false 9 3 1 (by decide) rfl rfl rfl (by simp) (by rw[abj];exact hcap) (by rw[abj]) (fun _=>rfl) rfl rfl (dG.refl (acG _))) ?_;simp only[ab2,ab5];have fN:(b.po++[-1]).set i ((L.ay.length:Int)+u.pt)=b.po++[(L.ay.length:Int)+u.pt]:=by rw[← n2];simp
     rcases hk:cH b.es [u.pt]with _|x
     ·
      rw[hk]at hC
      repeat'(first|with_reducible(first|exact BQ|exact VQ|refine aa ?_ ?_|exact⟨⟩|refine DQ ?_|assumption)|((with_reducible apply ah);refine ag rfl ?_ ?_;all_goals(intro hbq;(try simp only[bq,hk,ada]at hbq);(try(exfalso;omega))))|with_reducible(refine ao ?_)|refine RQ ?_|((with_reducible apply bG);rfl)|omega)
      all_goals first|rfl|exact AA hK rfl|exact⟨1,fun _=>⟨rfl,rfl⟩⟩|skip
      refine ax (i+1) ?_ ((by omega)) (by(try dsimp only);omega);refine WQ ?_ ?_<;>repeat'(first|with_reducible(first|refine KQ ?_|refine aa ?_ ?_|exact⟨⟩)|refine aw rfl ?_ ?_|exact(rfl:known _=_)|omega)
      all_goals(rw[← hC];try(first|rfl|(simp[fk,v5,v7,xR,tu,fI,fS,e1,fN];done)|(simp only[e1,fN];exact aG.refl _)))
     ·
      rw[hk]at hC
      repeat'(first|with_reducible(first|exact BQ|refine aa ?_ ?_|exact⟨⟩|refine DQ ?_|assumption)|((with_reducible apply ah);refine ag rfl ?_ ?_;all_goals(intro hbq;(try simp only[bq,hk,adw]at hbq);(try(exfalso;omega))))|with_reducible(refine ao ?_)|refine RQ ?_|((with_reducible apply bG);rfl)|omega)
      all_goals first|rfl|exact⟨1,fun _=>⟨rfl,rfl⟩⟩|skip
      refine ax (i+1) ?_ ((by omega)) (by(try dsimp only);omega);refine WQ ?_ ?_<;>repeat'(first|with_reducible(first|refine KQ ?_|refine aa ?_ ?_|exact⟨⟩)|refine aw rfl ?_ ?_|exact(rfl:known _=_)|omega)
      all_goals(rw[← hC];try(first|rfl|(simp[fk,v5,v7,xR,tu,fI,fS,e1,fN];done)|(simp only[e1,fN];exact aG.refl _)))
    all_goals first|omega|rfl
 ·have hie:i=st.length:=by omega
  subst hie;refine ao (aT (aY ?_));refine db rfl ?_ (cN (dI ?_))
  ·trivial
  refine ao (ag rfl ?_ ?_)
  ·intro hbq
   simp only[bq]at hbq;omega
  intro _;refine kh (jT (iC (fM rfl ?_)));refine jq _ (Xf 3 1 rfl rfl rfl rfl rfl (dG.refl (acG _))) ?_;repeat'(first|with_reducible(first|refine aa ?_ ?_|exact⟨⟩)|refine RQ ?_|fail)
  all_goals rfl
structure dp (c:dT):Prop where
 lay:cP c.L
 sk:c.sk.length<=9223372036854775807
 rt:c.rt.length<=9223372036854775807
 ms:c.ms.length<=9223372036854775807
 gK: ∀ r∈c.rt,r.st.length<=9223372036854775807/\ -9223372036854775808<=r.ov/\r.ov<=9223372036854775807
 mss: ∀ m∈c.ms,m.du.length<=9223372036854775807
abbrev xO (c:dT) (cs:List rZ) (ms:List (List Bl)):Option SB:=some (.cells [eP c.L.ct,eP c.L.bo,lV c.L.ay,kB c.L.aE,RN c.sk,RM c.rt,vg c.ms,aex cs,.c (.mh 1),ab8 ms])
def Ma (c:dT) (d:OY) (k:Bool):Bool:=decide (0<=d.rt)&&decide (d.rt<c.rt.length)&&decide (60<=d.gI)&&decide (d.gI<=2097152)&&decide (0<=d.dw)&&decide (d.dw<=7200)&& !(k&& !decide (d.dw=0))
def Kd (c:dT) (cs:List rZ) (ms:List (List Bl)) (es:List (List Int×yK)) (d:OY) (k:Bool):cC abg 191 [.c (pB 0),.agg (VP d),vB k] [xO c cs ms,Mn es] (vB (Ma c d k)) [xO c cs ms,Mn es]:=by
 unfold Ma;refine FQ Tryz.func191 ?_;repeat'(first|with_reducible(first|refine aa ?_ ?_|exact⟨⟩)|(intro(aX:(_:Bool)=true);(try simp only[bq]at aX))|(simp only[aX,bq];done)|refine AY ?_|fail)
 ·rfl
 repeat'(first|with_reducible(first|refine KQ ?_|refine aa ?_ ?_|exact⟨⟩)|rfl)
def OS (l:List Bl) (o:Bl) (hl:0<l.length) (NN:l.length<=9223372036854775807) (ho:l.getD (l.length-1) Ri=o) (h:0<=o.fst/\o.fst<=1000000/\0<=o.i/\o.i<o.cs.length/\0<=(o.cs.getD o.i.toNat ga).la/\(o.cs.getD o.i.toNat ga).la<=1000000):cC abg 193 [.c (YR l)] [] (vI (o.fst+(o.cs.getD o.i.toNat ga).la+1)) []:=by
 have e:((l.length:Int)-1).toNat=l.length-1:=by omega
 rw[← e]at ho
 refine FQ Tryz.func193 ?_;refine AY ?_;and_intros
 all_goals first|omega|(rw[ho];first|rfl|omega)|skip
def KB (a b:Int) (n e cl:List Int) (o r:Int):yK:=⟨a,b,.row (n.flatMap fk) n.length,.row (e.flatMap fk) e.length,.row (cl.flatMap fk) cl.length,o,r⟩
def Ib (c:dT) (cs:List rZ) (ms:List (List Bl)) (es:List (List Int×yK)) (o:Bl) (f t a b:Int) (x y z:List Int) (v r:Int) (hK:Mu 4 es) (h:cH es [o.rt,o.sk,f,t]=some (KB a b x y z v r)):cC abg 192 [.c (pB 0),.agg (S9 o),vI f,vI t] [xO c cs ms,Mn es] (.agg (nu a b x y z v r)) [xO c cs ms,Mn es]:=by
 refine FQ ae7 ?_;repeat'(first|with_reducible(first|exact BQ|refine aa ?_ ?_|exact⟨⟩|assumption)|((with_reducible apply cn);intro hbq;(try simp only[bq,h,adw]at hbq);(try(exfalso;omega)))|refine RQ ?_|((with_reducible apply bG);rfl)|fail)
 ·exact⟨7,fun _=>⟨rfl,rfl⟩⟩
 ·rfl
 ·simp only[h,acF,KB]
  refine AY ?_;and_intros
  ·rfl
  repeat'(first|with_reducible(first|refine KQ ?_|refine aa ?_ ?_|exact⟨⟩)|rfl)
def Ic (c:dT) (cs:List rZ) (ms:List (List Bl)) (es:List (List Int×yK)) (o:Bl) (f t a b:Int) (x y z:List Int) (v r e:Int) (hK:Mu 4 es) (h:cH es [o.rt,o.sk,f,t]=none) (hi:0<=o.i/\o.i<o.cs.length) (hs:0<=o.sk/\o.sk<c.sk.length)
  (hM:cC abg 63 [cc (o.cs.getD o.i.toNat ga).L,sX (o.cs.getD o.i.toNat ga).st (o.cs.getD o.i.toNat ga).ov,.agg (IZ (c.sk.getD o.sk.toNat iA)),vI f,vI t] [] (.dt [.agg (nu a b x y z v r),.c (xI e)]) []):
  cC abg 192 [.c (pB 0),.agg (S9 o),vI f,vI t] [xO c cs ms,Mn es] (.agg (nu a b x y z v r)) [xO c cs ms,Mn (IY es [o.rt,o.sk,f,t] (KB a b x y z v r))]:=by
 unfold cc at hM;refine FQ ae7 ?_;repeat'(first|with_reducible(first|exact BQ|exact VQ|refine aa ?_ ?_|exact⟨⟩|refine DQ ?_|assumption)|((with_reducible apply aA);refine an (hM) rfl ?_)|((with_reducible apply cn);intro hbq;(try simp only[bq,h,ada]at hbq);(try(exfalso;omega)))|refine RQ ?_|((with_reducible apply bG);rfl)|omega)
 all_goals first|exact⟨7,fun _=>⟨rfl,rfl⟩⟩|(with_reducible exact hK)|rfl|skip
 unfold KB;repeat'(first|with_reducible(first|refine KQ ?_|refine aa ?_ ?_|exact⟨⟩)|rfl)
def YO (es:List (List Int×yK)) (key:List Int) (p:yK):List (List Int×yK):=
 match cH es key with
 |some _=>es
 |none=>IY es key p
def Ia (c:dT) (cs:List rZ) (ms:List (List Bl)) (es:List (List Int×yK)) (o:Bl) (f t a b:Int) (x y z:List Int) (v r e:Int) (hK:Mu 4 es) (h: ∀ p,cH es [o.rt,o.sk,f,t]=some p->p=KB a b x y z v r) (hi:0<=o.i/\o.i<o.cs.length) (hs:0<=o.sk/\o.sk<c.sk.length)
  (hM:cC abg 63 [cc (o.cs.getD o.i.toNat ga).L,sX (o.cs.getD o.i.toNat ga).st (o.cs.getD o.i.toNat ga).ov,.agg (IZ (c.sk.getD o.sk.toNat iA)),vI f,vI t] [] (.dt [.agg (nu a b x y z v r),.c (xI e)]) []):
  cC abg 192 [.c (pB 0),.agg (S9 o),vI f,vI t] [xO c cs ms,Mn es] (.agg (nu a b x y z v r)) [xO c cs ms,Mn (YO es [o.rt,o.sk,f,t] (KB a b x y z v r))]:=by
 unfold YO;cases hk:cH es [o.rt,o.sk,f,t]with
 |some p=>exact Ib c cs ms es o f t a b x y z v r hK (by rw[hk,h p hk])
 |none=>exact Ic c cs ms es o f t a b x y z v r e hK hk hi hs hM
def nB {seen:List ByteArray} {s:ByteArray}:cz seen s=0↔eG s=true/\s∉seen:=by
 unfold cz;rw[← Q6];cases eG s<;>cases oz s seen<;>simp
def pz: ∀ (r seen:List ByteArray),bA seen r=0↔(∀ s∈r,eG s=true)/\r.Nodup/\ ∀ s∈r,s∉seen
 |[],seen=>by simp[bA]
 |x::r,seen=>by
  simp only[bA];by_cases hx:cz seen x=0
  ·rw[aa8 hx,pz r]
   have h:=nB.1 hx;simp only[acQ,aeC,ac1,acO,or_false,not_or];constructor
   ·rintro⟨a,b,c⟩
    refine⟨fun s hs=> ?_,⟨fun hm=>(c x hm).2 rfl,b⟩,fun s hs=> ?_⟩
    ·rcases hs with rfl|hs
     ·exact h.1
     ·exact a s hs
    ·rcases hs with rfl|hs
     ·exact h.2
     ·exact(c s hs).1
   ·rintro⟨a,⟨b1,b2⟩,c⟩
    exact⟨fun s hs=>a s (.inr hs),b2,fun s hs=>⟨c s (.inr hs),fun e=>b1 (e▸hs)⟩⟩
  ·rw[aa7 hx]
   refine⟨fun h=>absurd h hx,fun h=>absurd (nB.2 ⟨h.1 x (abq ..),h.2.2 x (abq ..)⟩) hx⟩
def ri (n:Nat): ∀ (r:List fH) (seen:List ByteArray),dg n seen r=0↔(∀ s∈r,eG s.nm=true/\lW n s=true)/\(r.map fH.nm).Nodup/\ ∀ s∈r,s.nm∉seen
 |[],seen=>by simp[dg]
 |x::r,seen=>by
  simp only[dg];by_cases hx:cz seen x.nm=0
  ·rw[aa8 hx]
   have h:=nB.1 hx;by_cases hb:lW n x=true
   ·rw[aa8 hb,ri n r]
    simp only[acQ,ae2,aeC,ac1,acO,or_false,not_or,adX,not_exists,not_and];constructor
    ·rintro⟨a,b,c⟩
     refine⟨fun s hs=> ?_,⟨fun y hm e=>(c y hm).2 e,b⟩,fun s hs=> ?_⟩
     ·rcases hs with rfl|hs
      ·exact⟨h.1,hb⟩
      ·exact a s hs
     ·rcases hs with rfl|hs
      ·exact h.2
      ·exact(c s hs).1
    ·rintro⟨a,⟨b1,b2⟩,c⟩
     exact⟨fun s hs=>a s (.inr hs),b2,fun s hs=>⟨c s (.inr hs),b1 s hs⟩⟩
   ·rw[aa7 hb]
    refine⟨fun h=>absurd h (by decide),fun h=>absurd (h.1 x (abq ..)).2 hb⟩
  ·rw[aa7 hx]
   refine⟨fun h=>absurd h hx,fun h=>absurd (nB.2 ⟨(h.1 x (abq ..)).1,h.2.2 x (abq ..)⟩) hx⟩
def xo (n p:Nat): ∀ (r prev:List fe),(∀ i,(h:i<r.length)->dL n p (prev++r.take i) r[i]=0)->bP n p prev r=0
 |[],_,_=>rfl
 |x::r,prev,h=>by
  simp only[bP];have h0:dL n p prev x=0:=by
   have:=h 0 (by simp);rw[aeZ,List.append_nil]at this
   exact this
  rw[aa8 h0];refine xo n p r _ fun i hi=> ?_;have:=h (i+1) (by simpa using hi);simpa[aeh]using this
def OF (L:cg) (st:List bX) (j:Nat):fH:=⟨(iK L (st.getD j bm)).nm,(iK L (st.getD j bm)).len,(iK L (st.getD j bm)).su,(iK L (st.getD j bm)).oO,-1⟩
def Gm (L:cg) (st:List bX) (b:Cb) (i:Nat):(lj L st b i).ay=b.ay++[OF L st i]:=by
 by_cases h:i=0
 ·rw[← qA L st b h];rfl
 ·rw[qB L st b h];split<;>rfl
def Nr (L:cg) (st:List bX) (b:Cb) (i:Nat):(lj L st b i).st=b.st++[⟨(i:Int),(st.getD i bm).dir⟩]:=by
 by_cases h:i=0
 ·rw[← qA L st b h]
 ·rw[qB L st b h];split<;>rfl
def P4 (L:cg) (st:List bX) (i:Nat):(o7 L st i).ay=(abi i).map (OF L st):=by
 induction i with
 |zero=>rfl
 |succ i ih=>
  rw[acJ,acD,← ih];exact Gm L st _ i
def Xs (L:cg) (st:List bX) (i:Nat):(o7 L st i).st=(abi i).map fun j=>⟨(j:Int),(st.getD j bm).dir⟩:=by
 induction i with
 |zero=>rfl
 |succ i ih=>
  rw[acJ,acD,← ih];exact Nr L st _ i
def jM {β:Type} {es:List (List Int×β)} {k k':List Int} {x:β} (h:cH es k=none):cH (IY es k x) k'=if k'=k then some x else cH es k':=by
 unfold IY;rw[h];simp only;unfold cH at h⊢;rw[List.find?_append];by_cases e:k'=k
 ·subst e
  rw[aa8 rfl];simp only[Option.map_eq_none_iff]at h;rw[h];simp
 ·rw[aa7 e]
  have:([(k,x)]:List (List Int×β)).find? (fun p=>p.1==k')=none:=by simp[Ne.symm e]
  rw[this];simp
def Pe (L:cg) (st:List bX) (b:Cb) (j:Nat) (k:fe):Prop:=
 k.a=j/\k.ae=nN (st.getD j bm).dir/\k.b=(j+1:Nat)/\k.be=1-nN (st.getD (j+1) bm).dir/\
 (((tF L (st.getD j bm) (st.getD (j+1) bm)).pt<0/\k.pt= -1/\k.ps=0)\/(0<=(tF L (st.getD j bm) (st.getD (j+1) bm)).pt/\cH b.es [(tF L (st.getD j bm) (st.getD (j+1) bm)).pt]=some k.pt/\k.ps=(tF L (st.getD j bm) (st.getD (j+1) bm)).ps))
structure CbI (L:cg) (st:List bX) (i:Nat) (b:Cb):Prop where
 p1: ∀ p v,cH b.es [p]=some v->0<=v/\v<b.bo.length/\0<=p/\p<L.bo.length/\b.bo.getD v.toNat ⟨#[]⟩=L.bo.getD p.toNat ⟨#[]⟩
 p2: ∀ p q v,cH b.es [p]=some v->cH b.es [q]=some v->p=q
 p3:b.bo.Nodup
 p4: ∀ s∈b.bo,∃ p v:Int,cH b.es [p]=some v/\b.bo.getD v.toNat ⟨#[]⟩=s
 k1:b.aE.length=i-1
 k2: ∀ j,j+1<i->Pe L st b j (b.aE.getD j bD)
def mm {l:List α} {x d:α} {i:Nat}:(l++[x]).getD i d=if i<l.length then l.getD i d else if i=l.length then x else d:=by
 simp only[GD];by_cases h:i<l.length
 ·rw[aa8 h,List.getElem?_append_left h]
 ·rw[aa7 h]
  by_cases e:i=l.length
  ·subst e
   rw[aa8 rfl];simp
  ·rw[aa7 e,ac7 (by simp;omega)];rfl
def Ar {l:List α} {d:α} (h:l.Nodup) {i:Nat} (hi:i<l.length) (hj:j<l.length) (e:l.getD i d=l.getD j d):i=j:=by
 rw[GD,GD,GE hi,GE hj]at e
 exact(List.getElem_inj h).1 e
def aal {L:cg} (hV:Valid L) (hn:L.bo.Nodup) (st:List bX) (i:Nat):CbI L st i (o7 L st i):=by
 induction i with
 |zero=>exact⟨fun p v h=>by simp[o7,cb0,cH]at h,fun p q v h=>by simp[o7,cb0,cH]at h,List.nodup_nil,fun s h=>by simp[o7,cb0]at h,rfl,fun j h=>by omega⟩
 |succ i ih=>
  show CbI L st (i+1) (lj L st (o7 L st i) i);generalize o7 L st i=b at ih⊢;by_cases hi:i=0
  ·rw[← qA L st b hi]
   exact⟨ih.p1,ih.p2,ih.p3,ih.p4,by rw[ih.k1];omega,fun j h=>by omega⟩
  ·rw[qB L st b hi]
   have hi1:i-1+1=i:=by omega
   have Tn:=QS hV (st.getD (i-1) bm) (st.getD i bm);generalize hu:tF L (st.getD (i-1) bm) (st.getD i bm)=u at*;have xg: ∀ j,j+1<i+1-> ¬ j+1<i->j=i-1:=fun j h1 h2=>by omega
   split
   next hp=>
    refine⟨ih.p1,ih.p2,ih.p3,ih.p4,by simp only[acT,adE,aeD,ih.k1];omega,fun j h=> ?_⟩;show Pe _ _ _ _ ((b.aE++[_]).getD j bD);rw[mm,ih.k1];by_cases hj:j+1<i
    ·rw[aa8 (by omega)]
     exact ih.k2 j hj
    ·have e:=xg j h hj
     subst e;rw[aa7 (by omega),aa8 rfl];refine⟨by simp only;omega,rfl,by simp only;omega,by rw[hi1],.inl ⟨by rw[hi1,hu];exact hp,rfl,rfl⟩⟩
   next hp=>
    have key: ∀ (es:List (List Int×Int)) (bo:List ByteArray),(∀ p v,cH b.es [p]=some v->cH es [p]=some v)->(∃ v,cH es [u.pt]=some v)->
      (∀ p v,cH es [p]=some v->0<=v/\v<bo.length/\0<=p/\p<L.bo.length/\bo.getD v.toNat ⟨#[]⟩=L.bo.getD p.toNat ⟨#[]⟩)->(∀ p q v,cH es [p]=some v->cH es [q]=some v->p=q)->bo.Nodup->(∀ s∈bo,∃ p v:Int,cH es [p]=some v/\bo.getD v.toNat ⟨#[]⟩=s)->
      CbI L st (i+1) { b with se:=b.se++[(st.getD i bm).sec],po:=b.po++[(L.ay.length:Int)+u.pt],ay:=b.ay++[⟨(L.ay.getD (st.getD i bm).sec.toNat dD).nm,(L.ay.getD (st.getD i bm).sec.toNat dD).len,(L.ay.getD (st.getD i bm).sec.toNat dD).su,(L.ay.getD (st.getD i bm).sec.toNat dD).oO,-1⟩],st:=b.st++[⟨(i:Int),(st.getD i bm).dir⟩],es:=es,bo:=bo,aE:=b.aE++[⟨(i:Int)-1,nN (st.getD (i-1) bm).dir,i,1-nN (st.getD i bm).dir,(cH es [u.pt]).getD 0,u.ps⟩] }:=by
     intro es bo q0 q5 q1 q2 q3 q4;refine⟨q1,q2,q3,q4,by simp only[acT,adE,aeD,ih.k1];omega,fun j h=> ?_⟩;show Pe _ _ _ _ ((b.aE++[_]).getD j bD);rw[mm,ih.k1];by_cases hj:j+1<i
     ·rw[aa8 (by omega)]
      have⟨a1,a2,a3,a4,a5⟩:=ih.k2 j hj;exact⟨a1,a2,a3,a4,a5.imp id fun⟨c1,c2,c3⟩=>⟨c1,q0 _ _ c2,c3⟩⟩
     ·have e:=xg j h hj
      subst e;rw[aa7 (by omega),aa8 rfl];have⟨v,hv⟩:=q5;refine⟨by simp only;omega,rfl,by simp only;omega,by rw[hi1],.inr ⟨by rw[hi1,hu];omega,?_,by rw[hi1,hu]⟩⟩;rw[hi1,hu];show cH es [u.pt]=some ((cH es [u.pt]).getD 0);rw[hv];rfl
    cases hk:cH b.es [u.pt]with
    |some v=>exact key b.es b.bo (fun _ _ h=>h) ⟨v,hk⟩ ih.p1 ih.p2 ih.p3 ih.p4
    |none=>
     have ad3:L.bo.getD u.pt.toNat ⟨#[]⟩∉b.bo:=fun hm=>by
      have⟨p,v,h1,h2⟩:=ih.p4 _ hm;have⟨a1,a2,a3,a4,a5⟩:=ih.p1 p v h1;rw[a5]at h2
      have:=Ar hn (by omega) (by omega) h2;have e:p=u.pt:=by omega
      rw[e,hk]at h1;cases h1
     refine key (IY b.es [u.pt] b.bo.length) (b.bo++[L.bo.getD u.pt.toNat ⟨#[]⟩]) (fun p v h=> ?_) ⟨b.bo.length,?_⟩ (fun p v h=> ?_) (fun p q v h1 h2=> ?_) ?_ (fun s hs=> ?_)
     ·rw[jM hk,aa7 (fun e=>by rw[e,hk]at h;cases h)];exact h
     ·rw[jM hk,aa8 rfl]
     ·rw[jM hk]at h
      rw[mm];by_cases e:[p]=[u.pt]
      ·rw[aa8 e]at h
       injection h with h;injection e with e;subst h;subst e;rw[aa7 (by omega),aa8 (by omega)];refine⟨by omega,by simp;omega,by omega,Tn,rfl⟩
      ·rw[aa7 e]at h
       have⟨a1,a2,a3,a4,a5⟩:=ih.p1 p v h;rw[aa8 (by omega)];exact⟨a1,by simp;omega,a3,a4,a5⟩
     ·rw[jM hk]at h1 h2
      by_cases e1:[p]=[u.pt]
      ·by_cases e2:[q]=[u.pt]
       ·injection e1 with e1;injection e2 with e2;omega
       ·rw[aa8 e1]at h1
        rw[aa7 e2]at h2
        injection h1 with h1;have:=(ih.p1 q v h2).2.1;omega
      ·by_cases e2:[q]=[u.pt]
       ·rw[aa7 e1]at h1
        rw[aa8 e2]at h2
        injection h2 with h2;have:=(ih.p1 p v h1).2.1;omega
       ·rw[aa7 e1]at h1
        rw[aa7 e2]at h2
        exact ih.p2 p q v h1 h2
     ·rw[List.nodup_append]
      exact⟨ih.p3,by simp,fun a ha b hb e=>by
       simp only[aec]at hb;subst hb;subst e
       exact ad3 ha⟩
     ·rcases ac1.1 hs with hs|hs
      ·have⟨p,v,h1,h2⟩:=ih.p4 s hs
       have⟨a1,a2,_⟩:=ih.p1 p v h1;refine⟨p,v,?_,?_⟩
       ·rw[jM hk,aa7 (fun e=>by rw[e,hk]at h1;cases h1)];exact h1
       ·rw[mm,aa8 (by omega)];exact h2
      ·simp only[aec]at hs
       refine⟨u.pt,b.bo.length,?_,?_⟩
       ·rw[jM hk,aa8 rfl]
       ·rw[mm,aa7 (by omega),aa8 (by omega),hs]
def bW {f:Nat->α} {d:α} {i:Nat} (h:i<n):((abi n).map f).getD i d=f i:=by
 simp[GD,h]
def find_congr {α:Type} {p q:α->Bool}: ∀ {l:List α},(∀ x∈l,p x=q x)->l.find? p=l.find? q
 |[],_=>rfl
 |a::l,h=>by
  rw[adJ,adJ,h a (abq ..),find_congr fun x hx=>h x (acE _ hx)]
section
variable {L:cg} {st:List bX} {ov:Int} (h:dA L ⟨st,ov⟩=0)
abbrev cL (L:cg) (st:List bX) (ov:Int):cg:=(oa L st ov).L
abbrev cR (L:cg) (st:List bX) (ov:Int):jB:=⟨(oa L st ov).st,ov⟩
def D6:(cL L st ov).ay=(abi st.length).map (OF L st):=P4 L st _
def V9:(cR L st ov).st=(abi st.length).map fun j=>⟨(j:Int),(st.getD j bm).dir⟩:=Xs L st _
def gT:(cR L st ov).st.length=st.length:=by rw[V9];simp
def uz (hj:j<st.length):(cR L st ov).st.getD j bm=⟨(j:Int),(st.getD j bm).dir⟩:=by rw[V9];exact bW hj
def Xl (hj:j<st.length):(cL L st ov).ay.getD j dD=OF L st j:=by rw[D6];exact bW hj
def D5:(cL L st ov).ay.length=st.length:=by rw[D6];simp
def CM {L:cg} (h:bH L=0):(∀ s∈L.bo,eG s=true)/\L.bo.Nodup/\(∀ s∈L.ay,eG s.nm=true/\lW L.ct.length s=true)/\(L.ay.map fH.nm).Nodup:=by
 unfold bH at h;split at h
 ·cases h
 ·split at h
  ·cases h
  ·have h1:=eZ h
   have h2:=eZ h1.2;have h3:=eZ h2.2;have a:=(pz _ _).1 h2.1;have b:=(ri _ _ _).1 h3.1;exact⟨a.1,a.2.1,b.1,b.2.1⟩
include h in
def cI:CbI L st st.length (o7 L st st.length):=by
 have hr:=dq h;exact aal (dJ hr.lay) (CM hr.lay).2.1 st _
def EL (d:Int):nN d=0\/nN d=1:=by unfold nN;split<;>simp
def US {d:Int} (h:d=0\/d=1):nN (wD d)=1-nN d:=by rcases h with rfl|rfl<;>decide
include h in
def wL (hj:j<st.length):(st.getD j bm).dir=0\/(st.getD j bm).dir=1:=(fm (fU (dq h).ok hj)).2.2
include h in
def Lu:(cL L st ov).aE.length=st.length-1:=(cI h).k1
include h in
def vW (hj:j+1<st.length):Pe L st (o7 L st st.length) j ((cL L st ov).aE.getD j bD):=(cI h).k2 j hj
include h in
def P0 (hj:j+1<st.length):jv st.length (cL L st ov).bo.length ((cL L st ov).aE.getD j bD)=true:=by
 have hI:=cI h;have hV:=dJ (dq h).lay;have⟨a1,a2,a3,a4,a5⟩:=vW h hj;have b1:=EL (st.getD j bm).dir;have b2:=EL (st.getD (j+1) bm).dir;unfold jv;rw[decide_eq_true_eq];rcases a5 with ⟨c1,c2,c3⟩|⟨c1,c2,c3⟩
 ·refine⟨by omega,by omega,by omega,by omega,by omega,by omega,by omega,by omega,by omega,?_,by omega,by omega,by omega⟩
  have:(0:Int)<=(cL L st ov).bo.length:=by omega
  omega
 ·have⟨d1,d2,d3,d4,d5⟩:=hI.p1 _ _ c2
  have d2:((cL L st ov).aE.getD j bD).pt<(cL L st ov).bo.length:=d2;have Kb:0<=(tF L (st.getD j bm) (st.getD (j+1) bm)).ps/\(tF L (st.getD j bm) (st.getD (j+1) bm)).ps<=1:=by
   unfold tF;cases hf:L.aE.find? (QR (st.getD j bm) (st.getD (j+1) bm))with
   |none=>simp[Yu]
   |some k=>
    have:=jL (hV.v4 k (adL hf));simp only[acF];omega
  refine⟨by omega,by omega,by omega,by omega,by omega,by omega,by omega,by omega,by omega,d2,by omega,by omega,by omega⟩
include h in
def JF:bH (cL L st ov)=0:=by
  have hr:=dq h;have hlen:=hr.len;have h2:=hr.two;have h3:=hr.rS;simp only at hlen h2 h3;have hI:=cI h;have hP:=CM hr.lay;have hn6:=(D7 L st st.length).2.2.2.2.2;have X3:(cL L st ov).aE.length=st.length-1:=Lu h;have hpl:(cL L st ov).bo.length<=st.length:=hn6;unfold bH;rw[aa7 (by rw[D5,X3];show ¬ (24<0\/_);omega),aa7 (by rw[D5];omega)];have e1:bA [] (cL L st ov).ct=0:=rfl;have e2:bA [] (cL L st ov).bo=0:=by
    refine(pz _ _).2 ⟨fun s hs=> ?_,hI.p3,fun s _=>by simp⟩;have⟨p,v,k1,k2⟩:=hI.p4 s hs;have⟨a1,a2,a3,a4,a5⟩:=hI.p1 p v k1;rw[a5]at k2
    rw[← k2];refine hP.1 _ ?_;rw[GD,GE (by omega)];exact acC _
  have e3:dg (cL L st ov).ct.length [] (cL L st ov).ay=0:=by
    rw[D6];refine(ri _ _ _).2 ⟨fun s hs=> ?_,?_,fun s _=>by simp⟩
    ·obtain⟨j,hj,rfl⟩:=adX.1 hs
     have hj:=aby.1 hj;have ha:0<=(st.getD j bm).sec/\(st.getD j bm).sec<L.ay.length/\_:=fm (fU hr.ok hj);have hm:iK L (st.getD j bm)∈L.ay:=by
        unfold iK;rw[GD,GE (by omega)];exact acC _
     have⟨b1,b2⟩:=hP.2.2.1 _ hm;refine⟨b1,?_⟩;have⟨c1,c2,c3,c4,c5,c6,c7,c8⟩:=pQ b2;unfold lW OF;rw[decide_eq_true_eq];exact⟨c1,c2,c3,c4,c5,c6,(by show(-1:Int)<= -1;decide),by show(-1:Int)<_;omega⟩
    ·rw[List.map_map]
     show List.Pairwise (·≠ ·) _;rw[List.pairwise_map];refine List.Pairwise.imp_of_mem (fun{i j} hi hj hij=> ?_) List.pairwise_lt_range;have hi:=aby.1 hi;have hj:=aby.1 hj;intro e;have ha:0<=(st.getD i bm).sec/\(st.getD i bm).sec<L.ay.length/\_:=fm (fU hr.ok hi);have hb:0<=(st.getD j bm).sec/\(st.getD j bm).sec<L.ay.length/\_:=fm (fU hr.ok hj);have hne:(st.getD i bm).sec.toNat≠(st.getD j bm).sec.toNat:=MO hr hij hj;refine hne (Ar (d:=(dD:fH).nm) hP.2.2.2 (by rw[abr];omega) (by rw[abr];omega) ?_);have em: ∀ k,(L.ay.map fH.nm).getD k (dD:fH).nm=(L.ay.getD k dD).nm:=fun k=>by
        rw[GD,ady,GD];cases L.ay[k]? <;>rfl
     rw[em,em];exact e
  have e4:bP (cL L st ov).ay.length (cL L st ov).bo.length [] (cL L st ov).aE=0:=by
    refine xo _ _ _ _ fun i hi=> ?_;have hi2:i+1<st.length:=by omega
    rw[adI,D5];have eg: ∀ j,(hj:j<(cL L st ov).aE.length)->(cL L st ov).aE[j]=(cL L st ov).aE.getD j bD:=fun j hj=>by
      rw[GD,GE hj];rfl
    have⟨a1,a2,a3,a4,_⟩:=vW h hi2;have hB:=P0 h hi2;rw[eg i hi];have abl: ∀ k∈(cL L st ov).aE.take i,∃ j,j<i/\Pe L st (o7 L st st.length) j k:=fun k hk=>by
      obtain⟨j,hj,rfl⟩:=acB.1 hk;rw[abk]at hj
      refine⟨j,by omega,?_⟩;rw[acM,eg j (by omega)];exact vW h (by omega)
    have b1:=EL (st.getD i bm).dir;have b2:=EL (st.getD (i+1) bm).dir;have f1:vE ((cL L st ov).aE.take i) ((((cL L st ov).aE.getD i bD).a,((cL L st ov).aE.getD i bD).ae))=[]:=by
      unfold vE;refine ad1.2 fun k hk=> ?_;have⟨j,hj,c1,c2,c3,c4,_⟩:=abl k hk;unfold gF;rw[decide_eq_true_eq];rintro(⟨d1,d2⟩|⟨d1,d2⟩)
      ·simp only at d1;omega
      ·simp only at d1 d2
       have:j+1=i:=by omega
       rw[this]at c4
       omega
    have f2:vE ((cL L st ov).aE.take i) ((((cL L st ov).aE.getD i bD).b,((cL L st ov).aE.getD i bD).be))=[]:=by
      unfold vE;refine ad1.2 fun k hk=> ?_;have⟨j,hj,c1,c2,c3,c4,_⟩:=abl k hk;unfold gF;rw[decide_eq_true_eq];rintro(⟨d1,d2⟩|⟨d1,d2⟩)<;>(simp only at d1;omega)
    unfold dL;rw[aa7 (by rw[hB];decide),aa7 (fun e=>by injection e with e _;omega),aa7,aa7]
    ·rw[f1,f2];simp[uH]
    ·intro e
     have⟨k,hk,e⟩:=acN.1 e;rw[abt]at e
     have:k∈vE ((cL L st ov).aE.take i) ((((cL L st ov).aE.getD i bD).a,((cL L st ov).aE.getD i bD).ae)):=List.mem_filter.2 ⟨hk,e.1⟩;rw[f1]at this
     cases this
  rw[e1,e2,e3,e4];rfl
include h in
def T3 {i:Nat} (hi:i+1<st.length):(cL L st ov).aE.find? (rv ((cR L st ov).st.getD i bm) ((cR L st ov).st.getD (i+1) bm))=some ((cL L st ov).aE.getD i bD):=by
 have X3:(cL L st ov).aE.length=st.length-1:=Lu h;have Wp:=wL h hi;rw[uz (by omega),uz hi];refine kG (by omega) ?_ fun j hj=> ?_
 ·have⟨a1,a2,a3,a4,_⟩:=vW h hi
  unfold rv;rw[abz,decide_eq_true_eq];exact .inl ⟨⟨a1,a2⟩,a3,by simp only;rw[US Wp];exact a4⟩
 ·have⟨a1,a2,a3,a4,_⟩:=vW h (show j+1<st.length by omega)
  unfold rv;rw[aea,decide_eq_false_iff_not,decide_eq_false_iff_not];constructor
  ·rintro⟨⟨c1,_⟩,_⟩
   simp only at c1;omega
  ·rintro⟨⟨c1,_⟩,_⟩
   simp only at c1;omega
include h in
def Lx {i:Nat} (hi:i+1<st.length):(ka (cL L st ov) ((cR L st ov).st.getD i bm) ((cR L st ov).st.getD (i+1) bm)).map wP.pt=some ((cL L st ov).aE.getD i bD).pt:=by
 have Zs:=wL h (show i<st.length by omega);have Wp:=wL h hi;rw[← pV (JF h) (by rw[uz (by omega)];exact Zs) (by rw[uz hi];exact Wp)];unfold nT;rw[T3 h hi];rfl
include h in
def Xp:dA (cL L st ov) (cR L st ov)=0:=by
 have hr:=dq h;have hlen:=hr.len;have h1:=hr.ov;have h2:=hr.two;have h3:=hr.rS;simp only at hlen h2 h3 h1;refine MD (JF h) (by rw[gT];show ¬ (24<st.length\/2<ov);omega) (by rw[gT];show ¬ (ov<0\/(st.length:Int)-ov<2);omega) (yd fun j hj=> ?_) (En fun j hj=> ?_) (uV fun j hj=> ?_)
 ·rw[gT]at hj
  rw[uz hj];have:=wL h hj;unfold bX.ok;rw[D5];simp only[abt,abz,decide_eq_true_eq];exact⟨⟨by omega,by omega⟩,this⟩
 ·rw[gT]at hj
  cases e:kS (cR L st ov).st j with
  |false=>rfl
  |true=>
   exfalso;unfold kS at e;have⟨x,hx,e2⟩:=acN.1 e;obtain⟨i,hi,rfl⟩:=acB.1 hx;rw[abk,gT]at hi
   rw[decide_eq_true_eq,uz hj]at e2
   have e3:((cR L st ov).st.take j)[i]=(cR L st ov).st.getD i bm:=by
    rw[acM,GD,GE (by rw[gT];omega)];rfl
   rw[e3,uz (by omega)]at e2
   simp only at e2;omega
 ·rw[gT]at hj
  unfold kz;have:=Lx h hj;cases e:ka (cL L st ov) ((cR L st ov).st.getD j bm) ((cR L st ov).st.getD (j+1) bm)with
  |some x=>rfl
  |none=>rw[e]at this;cases this
theorem IS (l:List α) (d:α) {m:Nat} (hm:m<=l.length):l.take m=(abi m).map fun j=>l.getD j d:=by
 apply abw
 ·simp;omega
 ·intro i h1 h2
  simp only[abk]at h1;rw[acM,abV,acz,GD,GE (by omega)];rfl
def Ff (hj:j<st.length):iK (cL L st ov) ((cR L st ov).st.getD j bm)=OF L st j:=by
 rw[uz hj];unfold iK;simp only[abh];exact Xl hj
def Xt (hj:j<st.length):gU (cL L st ov) ((cR L st ov).st.getD j bm)=gU L (st.getD j bm):=by
 unfold gU zo;rw[Ff hj,uz hj];rfl
theorem Gt {L:cg} {l:List bX} {m:Nat} (hm:m<=l.length):fV L (l.take m)=(abi m).flatMap fun j=>gU L (l.getD j bm):=by
 unfold fV;rw[IS l bm hm,List.flatMap_map]
def BD {β:Type} {l:List α} {f g:α->List β} (h: ∀ x∈l,f x=g x):l.flatMap f=l.flatMap g:=by
 induction l with
 |nil=>rfl
 |cons a l ih=>
  rw[adA,adA,h a (abq ..),ih fun x hx=>h x (acE _ hx)]
def WS:cD (cR L st ov)=(cR L st ov).st.take ((st.length:Int)-ov).toNat:=by unfold cD;rw[gT]
def P6 {m:Nat} (hm:m<=st.length):fV (cL L st ov) ((cR L st ov).st.take m)=fV L (st.take m):=by
 rw[Gt (by rw[gT];exact hm),Gt hm];refine BD fun j hj=> ?_;have:=aby.1 hj;exact Xt (by omega)
theorem any_map {l:List bX} {p:bX->Bool} {m:Nat} (hm:m<=l.length):(l.take m).any p=(abi m).any fun j=>p (l.getD j bm):=by
 rw[IS l bm hm,List.any_map];rfl
def tf {l:List α} {f g:α->Bool} (h: ∀ x∈l,f x=g x):l.any f=l.any g:=by
 induction l with
 |nil=>rfl
 |cons a l ih=>
  rw[adQ,adQ,h a (abq ..),ih fun x hx=>h x (acE _ hx)]
def VH {m:Nat} {l:Int} (hm:m<=st.length):((cR L st ov).st.take m).any (tight (cL L st ov) l)=(st.take m).any (tight L l):=by
 rw[any_map (by rw[gT];exact hm),any_map hm];refine tf fun j hj=> ?_;have:=aby.1 hj;unfold tight;rw[Ff (by omega)];rfl
include h in
def P2:ed (cL L st ov) (cR L st ov)=ed L ⟨st,ov⟩:=by
 have hr:=dq h;have h3:=hr.rS;simp only at h3;unfold ed;rw[Xp h,h,WS,P6 (by omega)];rfl
include h in
def Xn (l sp ac br:Int):de (cL L st ov) (cR L st ov) l sp ac br=de L ⟨st,ov⟩ l sp ac br:=by
 have hr:=dq h;have h3:=hr.rS;simp only at h3;unfold de;rw[P2 h,WS,VH (by omega)];rfl
include h in
def V8 (i:Nat) (hi:i<st.length):(iH L st i<0/\iH (cL L st ov) (cR L st ov).st i= -1)\/(0<=iH L st i/\cH (o7 L st st.length).es [iH L st i]=some (iH (cL L st ov) (cR L st ov).st i)):=by
 have hr:=dq h;unfold iH;by_cases e:i=0
 ·rw[aa8 e,aa8 e];exact .inl ⟨by omega,rfl⟩
 ·rw[aa7 e,aa7 e]
  have Zs:=wL h (show i-1<st.length by omega);have Wp:=wL h hi;have e1:i-1+1=i:=by omega
  have hj:=Lx h (i:=i-1) (by omega);have⟨_,_,_,_,a5⟩:=vW h (show i-1+1<st.length by omega);rw[e1]at hj a5
  rw[hj];have hb:(tF L (st.getD (i-1) bm) (st.getD i bm)).pt=((ka L (st.getD (i-1) bm) (st.getD i bm)).map wP.pt).getD (-1):=by
   rw[← pV hr.lay Zs Wp];unfold tF nT;have:L.aE.find? (QR (st.getD (i-1) bm) (st.getD i bm))=L.aE.find? (rv (st.getD (i-1) bm) (st.getD i bm)):=find_congr fun k hk=>UM hr.lay Zs Wp hk;rw[this];cases L.aE.find? (rv (st.getD (i-1) bm) (st.getD i bm))<;>rfl
  rw[← hb];simp only[acF];rcases a5 with ⟨c1,c2,_⟩|⟨c1,c2,_⟩
  ·exact .inl ⟨c1,c2⟩
  ·exact .inr ⟨c1,c2⟩
include h in
def Xm:BA (cL L st ov) (cR L st ov).st=BA L st:=by
 have hI:=cI h;unfold BA;rw[gT];refine tf fun i hi=> ?_;have hi:=aby.1 hi;rcases V8 h i hi with ⟨a1,a2⟩|⟨a1,a2⟩
 ·rw[a2,decide_eq_false (show ¬ (0:Int)<= -1 by decide),decide_eq_false (by omega)]
  simp
 ·have a3:=(hI.p1 _ _ a2).1
  rw[decide_eq_true a1,decide_eq_true a3];simp only[adT];refine tf fun j hj=> ?_;have hj:=aby.1 hj;rw[decide_eq_decide];rcases V8 h j (by omega)with ⟨b1,b2⟩|⟨b1,b2⟩
  ·rw[b2]
   exact⟨fun e=>by rw[← e]at a3;exact absurd a3 (by decide),fun e=>by rw[e]at b1;omega⟩
  ·constructor
   ·intro e
    rw[e]at b2
    exact hI.p2 _ _ _ b2 a2
   ·intro e
    rw[e]at b2
    rw[a2]at b2
    injection b2 with b2;exact b2.symm
include h in
def Xo (l sp ac br:Int):fl (cL L st ov) (cR L st ov) l sp ac br=fl L ⟨st,ov⟩ l sp ac br:=by
 unfold fl;rw[Xn h];show(if _ then _ else if BA (cL L st ov) (cR L st ov).st=true then _ else _)=_;rw[Xm h]
include h in
def Xq (l sp ac br:Int):m8 (cL L st ov) (cR L st ov) l sp ac br=m8 L ⟨st,ov⟩ l sp ac br:=by
 have hr:=dq h;have h2:=hr.two;have h3:=hr.rS;simp only at h2 h3;have e0:((st.length:Int)-ov).toNat<=st.length:=by omega
 have eT:fV (cL L st ov) (cD (cR L st ov))=fV L (cD ⟨st,ov⟩):=by
  unfold cD;rw[gT];exact P6 e0
 have eO:fE (cL L st ov) (cR L st ov)=fE L ⟨st,ov⟩:=by
  unfold fE;rw[P2 h];split
  ·show(iK (cL L st ov) ((cR L st ov).st.getD 0 bm)).len=_
   rw[Ff (by omega)];rfl
  ·rfl
 have eL:(cD (cR L st ov)).length=(cD ⟨st,ov⟩).length:=by unfold cD;rw[abk,abk,gT]
 have eA: ∀ k,k<(cD ⟨st,ov⟩).length->bx (cL L st ov) (cD (cR L st ov)) k=bx L (cD ⟨st,ov⟩) k:=by
  intro k
  induction k with
  |zero=>intro _;rfl
  |succ k ih=>
   intro hk;rw[bx,bx,ih (by omega)];congr 1;have hk2:k+1<((st.length:Int)-ov).toNat:=by
    unfold cD at hk;rw[abk]at hk
    simp only at hk;omega
   unfold lB;have x1:(cD (cR L st ov)).getD (k+1) bm=(cR L st ov).st.getD (k+1) bm:=by
    unfold cD;rw[gT,GD,adV hk2,← GD]
   have x2:(cD ⟨st,ov⟩).getD (k+1) bm=st.getD (k+1) bm:=by
    unfold cD;rw[GD,adV hk2,← GD]
   rw[x1,x2];have:=Ff (L:=L) (st:=st) (ov:=ov) (show k+1<st.length by omega);unfold iK at this;rw[this];rfl
 unfold m8 gJ;rw[eT,eO,eL];by_cases hz:(cD ⟨st,ov⟩).length=0
 ·rw[hz];rfl
 ·rw[eA _ (by omega)]
end
def ku (f:Nat->Int) (n:Nat):Int:=(((abi n).find? fun i=> !decide (f i=0)).map f).getD 0
def mj (h: ∀ i,i<n->f i=0):ku f n=0:=by
 unfold ku;rw[List.find?_eq_none.2 fun x hx=>by rw[h x (aby.1 hx)];simp];rfl
def mi {i:Nat} (hi:i<n) (h:f i≠0) (dQ: ∀ j,j<i->f j=0):ku f n=f i:=by
 unfold ku
 have:=kG (p:=fun i=> !decide (f i=0)) (d:=0) (l:=abi n) (i:=i) (by simpa using hi) (by simp[GD,hi,h]) (fun j hj=>by
  have Tk:j<n:=by omega
  simp[GD,Tk,dQ j hj])
 rw[this];simp[GD,hi]
def zJ (h:ku f n=0): ∀ i,i<n->f i=0:=by
 intro i
 induction i using Nat.strongRecOn with
 |_ i ih=>
  intro hi;by_cases e:f i=0
  ·exact e
  ·rw[mi hi e fun j hj=>ih j hj (by omega)]at h
   exact h
def iQ (cs:List rZ) (r:Int):rZ:=cs.getD r.toNat ga
def bT (c:dT) (s:Int):I8:=c.sk.getD s.toNat iA
def qV (c:dT) (cs:List rZ) (r s:Int):Int:=fl (iQ cs r).L ⟨(iQ cs r).st,(iQ cs r).ov⟩ (bT c s).len (bT c s).sp (bT c s).ac (bT c s).br
def jc (cs:List rZ) (r:Int):Nat:=(iQ cs r).la.toNat
def Ob (cs:List rZ) (r:Int):jB:=fP (iQ cs r).st (iQ cs r).ov 0 (jc cs r)
def gL (c:dT) (cs:List rZ) (r s:Int):Int:=m8 (iQ cs r).L (Ob cs r) (bT c s).len (bT c s).sp (bT c s).ac (bT c s).br
def Vi (c:dT) (cs:List rZ) (r s:Int):yK:=KB 0 (jc cs r) (row (jc cs r) (xp (iQ cs r).L (Ob cs r) (bT c s).len (bT c s).sp (bT c s).ac (bT c s).br)) (row (jc cs r) (xq (iQ cs r).L (Ob cs r) (bT c s).len (bT c s).sp (bT c s).ac (bT c s).br)) (row (jc cs r) (Gy (iQ cs r).L (Ob cs r) (bT c s).len (bT c s).sp (bT c s).ac (bT c s).br)) (Rs (iQ cs r).L (Ob cs r) (bT c s).len (bT c s).sp (bT c s).ac (bT c s).br (jc cs r)) (gL c cs r s)
structure Tt (c:dT) (cs:List rZ):Prop where
 len:cs.length=c.rt.length
 lay: ∀ i,i<cs.length->cP (cs.getD i ga).L
 st: ∀ i,i<cs.length->(cs.getD i ga).st.length<=24
 ov: ∀ i,i<cs.length->0<=(cs.getD i ga).ov/\(cs.getD i ga).ov<=2
 la: ∀ i,i<cs.length->(cs.getD i ga).la=(cs.getD i ga).st.length-(cs.getD i ga).ov-1/\1<=(cs.getD i ga).la
 se: ∀ i,i<cs.length->(cs.getD i ga).se.length=(cs.getD i ga).st.length
def qd (cs:List rZ) (m:FO):Nat->Int
 |0=>0
 |k+1=>qd cs m k+(iQ cs (m.du.getD k bd).rt).la
def mW (c:dT) (cs:List rZ) (m:FO) (k:Nat):Bl:=⟨cs,(m.du.getD k bd).rt,(m.du.getD k bd).rt,m.sk,(m.du.getD k bd).gI,(m.du.getD k bd).dw,qd cs m k,gL c cs (m.du.getD k bd).rt m.sk⟩
def iv (c:dT) (cs:List rZ) (m:FO) (k:Nat):Int:=
 if Ma c (m.du.getD k bd) (decide ((k:Int)=0))=false then 4 else if qV c cs (m.du.getD k bd).rt m.sk≠0 then qV c cs (m.du.getD k bd).rt m.sk else
 if k=0 then 0 else
 if(iQ cs (m.du.getD k bd).rt).se.getD 0 0≠(iQ cs (m.du.getD (k-1) bd).rt).se.getD (jc cs (m.du.getD (k-1) bd).rt) 0 then 11 else
 if(m.du.getD k bd).gI<(m.du.getD (k-1) bd).gI+gL c cs (m.du.getD (k-1) bd).rt m.sk+(m.du.getD k bd).dw then 14 else 0
def je (c:dT) (cs:List rZ) (m:FO):Int:=
 if m.sk<0\/(c.sk.length:Int)<=m.sk then 4 else if m.du.length=0 then 1 else if 12<m.du.length then 7 else
 if ku (iv c cs m) m.du.length≠0 then ku (iv c cs m) m.du.length else if 64<qd cs m m.du.length+1 then 7 else 0
structure Ji (c:dT) (cs:List rZ) (es:List (List Int×yK)):Prop where
 ok:Mu 4 es
 at_: ∀ r s p,cH es [r,s,0,(iQ cs r).la]=some p->p=Vi c cs r s
def UT {c:dT} {es:List (List Int×yK)} (h:Ji c cs es) (r s:Int):Ji c cs (YO es [r,s,0,(iQ cs r).la] (Vi c cs r s)):=by
 unfold YO;cases hk:cH es [r,s,0,(iQ cs r).la]with
 |some p=>exact h
 |none=>
  refine⟨AA h.ok rfl,fun r' s' p hp=> ?_⟩;rw[jM hk]at hp
  by_cases e:[r',s',0,(iQ cs r').la]=[r,s,0,(iQ cs r).la]
  ·rw[aa8 e]at hp
   injection e with e1 e;injection e with e2 e;injection hp with hp;rw[← hp,e1,e2]
  ·rw[aa7 e]at hp
   exact h.at_ r' s' p hp
def kx {c:dT} {d:OY} {k:Bool} (h:Ma c d k=true):0<=d.rt/\d.rt<c.rt.length/\60<=d.gI/\d.gI<=2097152/\0<=d.dw/\d.dw<=7200:=by
 unfold Ma at h;simp only[abt,decide_eq_true_eq]at h;have⟨⟨⟨⟨⟨⟨a,b⟩,c⟩,d⟩,e⟩,f⟩,_⟩:=h;exact⟨a,b,c,d,e,f⟩
def ko {c:dT} {m:FO} {k:Nat} (h:iv c cs m k=0):Ma c (m.du.getD k bd) (decide ((k:Int)=0))=true/\qV c cs (m.du.getD k bd).rt m.sk=0:=by
 unfold iv at h;split at h
 ·cases h
 next h1=>
  split at h
  ·rename_i h2;exact absurd h h2
  next h2=>
   exact⟨by simpa using h1,by simpa using h2⟩
def uY {c:dT} {m:FO} {k:Nat} (h1: ¬ (m.sk<0\/(c.sk.length:Int)<=m.sk)) (h2: ¬ m.du.length=0) (h3: ¬ 12<m.du.length) (hk:k<m.du.length) (he:iv c cs m k≠0) (dQ: ∀ j,j<k->iv c cs m j=0):je c cs m=iv c cs m k:=by
 unfold je;rw[aa7 h1,aa7 h2,aa7 h3,mi hk he dQ,aa8 he]
def Hu {c:dT} {m:FO} (h1: ¬ (m.sk<0\/(c.sk.length:Int)<=m.sk)) (h2: ¬ m.du.length=0) (h3: ¬ 12<m.du.length) (dQ: ∀ j,j<m.du.length->iv c cs m j=0):je c cs m=if 64<qd cs m m.du.length+1 then 7 else 0:=by
 unfold je;rw[aa7 h1,aa7 h2,aa7 h3,mj dQ,aa7 (by simp)]
def uI {c:dT} {cs:List rZ} (hcs:Tt c cs) {m:FO}: ∀ {k:Nat},(∀ j,j<k->0<=(m.du.getD j bd).rt/\(m.du.getD j bd).rt<cs.length)->0<=qd cs m k/\qd cs m k<=24*k
 |0,_=>by simp[qd]
 |k+1,h=>by
  have ih:=uI hcs (k:=k) fun j hj=>h j (by omega);have⟨a,b⟩:=h k (by omega);have h1:=hcs.la _ (show(m.du.getD k bd).rt.toNat<cs.length by omega);have h2:=hcs.st _ (show(m.du.getD k bd).rt.toNat<cs.length by omega);have h3:=hcs.ov _ (show(m.du.getD k bd).rt.toNat<cs.length by omega);unfold qd iQ;omega
def vo {c:dT} (hcs:Tt c cs) {r s:Int} (h0:0<=r/\r<cs.length) (h:qV c cs r s=0):0<gL c cs r s/\gL c cs r s<=80001:=by
 have h1:=hcs.la _ (show r.toNat<cs.length by omega);have h3:=hcs.ov _ (show r.toNat<cs.length by omega);exact ME (pN (rT (wt h).1 (show 0<(cs.getD r.toNat ga).la.toNat by omega) (show(((cs.getD r.toNat ga).la.toNat:Nat):Int)<=(cs.getD r.toNat ga).st.length-(cs.getD r.toNat ga).ov-1 by omega)))
def Nx (c:dT) (hc:dp c) (cs:List rZ) (hcs:Tt c cs) (ms:List (List Bl)) (es:List (List Int×yK)) (Uy:Ji c cs es) (m:FO) (hm:m.du.length<=9223372036854775807):
  I7 abg 147 [.c (pB 0),.agg (K8 m)] [xO c cs ms,Mn es] (Ji c cs) (fun _=> .dt [.c (YR (if je c cs m=0 then(abi m.du.length).map (mW c cs m)else [])),.c (xI (je c cs m))]) (fun BC=>[xO c cs ms,Mn BC]):=by
 have G1:=hc.sk;have hn:=hcs.len;refine sH aC Tryz.func147 rfl (by kernel_rfl) (Nat.le_of_ble_eq_true (by kernel_rfl)) (by kernel_rfl) (fun x hx=>⟨rfl,rfl,nb rfl,rfl⟩) rfl ?_;simp only[cq,afg,Nat.reduceAdd];repeat'(first|with_reducible(first|refine aa ?_ ?_|exact⟨⟩|(apply q_L;intro hbq))|(intro(aX:(_:Bool)=_);(try simp only[bq]at aX))|refine AZ ?_|fail)
 ·have he:je c cs m=4:=by unfold je;rw[aa8 (by simpa using hbq)]
  rw[he];refine ij rfl es Uy ?_ ?_
  ·rfl
  repeat'(first|with_reducible(first|refine KQ ?_|refine aa ?_ ?_|exact⟨⟩)|rfl)
 ·have he:je c cs m=1:=by unfold je;rw[aa7 (by omega),aa8 (by omega)]
  rw[he];refine ij rfl es Uy ?_ ?_
  ·rfl
  repeat'(first|with_reducible(first|refine KQ ?_|refine aa ?_ ?_|exact⟨⟩)|rfl)
 ·have he:je c cs m=7:=by unfold je;rw[aa7 (by omega),aa7 (by omega),aa8 (by omega)]
  rw[he];refine ij rfl es Uy ?_ ?_
  ·rfl
  repeat'(first|with_reducible(first|refine KQ ?_|refine aa ?_ ?_|exact⟨⟩)|rfl)
 have q1: ¬ (m.sk<0\/(c.sk.length:Int)<=m.sk):=by omega
 have q2: ¬ m.du.length=0:=by omega
 have q3: ¬ 12<m.du.length:=by omega
 refine aI (fun x:Nat×List (List Int×yK)=>SS [sC 0 (pB 0),sC 3 (pB 2),sC 6 (aeI ((abi x.1).map (mW c cs m))),sC 39 (Ie m.du),sI 40 m.du.length,sI 41 x.1] [xO c cs ms,Mn x.2,some (.cells (K8 m))]) (fun x=>x.1<=m.du.length/\Ji c cs x.2/\ ∀ j,j<x.1->iv c cs m j=0) (fun x=>m.du.length-x.1) (0,es) ?_ ⟨by simp,Uy,fun j hj=>absurd hj (by simp)⟩ ?_
 ·
  refine WZ ?_;repeat' with_reducible(first|refine aa ?_ ?_|exact⟨⟩|fail)
  all_goals skip
 rintro⟨k,es⟩ ⟨hk,hE,dQ⟩;simp only at hk hE dQ⊢;clear Uy;by_cases nW:k<m.du.length
 ·have hR:=Kd c cs ms es (m.du.getD (k:Int).toNat bd) (decide ((k:Int)=0))
  rcases acZ (Ma c (m.du.getD (k:Int).toNat bd) (decide ((k:Int)=0)))with r1|r1
  ·obtain⟨g1,g2,g3,g4,g5,g6⟩:=kx r1
   have hi:(m.du.getD (k:Int).toNat bd).rt.toNat<cs.length:=by omega
   have cY:=hcs.lay _ hi;have cS:=hcs.st _ hi;have cO:=hcs.ov _ hi;have cL:=hcs.la _ hi;have cE:=hcs.se _ hi;have hF:=Ak _ cY (cs.getD (m.du.getD (k:Int).toNat bd).rt.toNat ga).st (cs.getD (m.du.getD (k:Int).toNat bd).rt.toNat ga).ov (by omega) (by omega) (c.sk.getD m.sk.toNat iA).nm (c.sk.getD m.sk.toNat iA).len (c.sk.getD m.sk.toNat iA).sp (c.sk.getD m.sk.toNat iA).ac (c.sk.getD m.sk.toNat iA).br;unfold cc at hF;change cC abg _ _ [] (vI (qV c cs (m.du.getD (k:Int).toNat bd).rt m.sk)) []at hF;by_cases r2:qV c cs (m.du.getD (k:Int).toNat bd).rt m.sk=0
   ·have tC:(((jc cs (m.du.getD (k:Int).toNat bd).rt:Nat)):Int)=(cs.getD (m.du.getD (k:Int).toNat bd).rt.toNat ga).la:=by unfold jc iQ;omega
    have adZ:0<jc cs (m.du.getD (k:Int).toNat bd).rt:=by omega
    have hM:=Mm _ cY (cs.getD (m.du.getD (k:Int).toNat bd).rt.toNat ga).st (cs.getD (m.du.getD (k:Int).toNat bd).rt.toNat ga).ov (by omega) (by omega) (c.sk.getD m.sk.toNat iA).nm (c.sk.getD m.sk.toNat iA).len (c.sk.getD m.sk.toNat iA).sp (c.sk.getD m.sk.toNat iA).ac (c.sk.getD m.sk.toNat iA).br 0 (jc cs (m.du.getD (k:Int).toNat bd).rt) r2 adZ (by omega);rw[tC]at hM
    have hP:=Ia c cs ms es ⟨cs,(m.du.getD (k:Int).toNat bd).rt,(m.du.getD (k:Int).toNat bd).rt,m.sk,(m.du.getD (k:Int).toNat bd).gI,(m.du.getD (k:Int).toNat bd).dw,0,0⟩ 0 (cs.getD (m.du.getD (k:Int).toNat bd).rt.toNat ga).la 0 (jc cs (m.du.getD (k:Int).toNat bd).rt) _ _ _ _ (gL c cs (m.du.getD (k:Int).toNat bd).rt m.sk) 0 hE.ok (hE.at_ _ _) ⟨by show(0:Int)<=(m.du.getD (k:Int).toNat bd).rt;omega,by show(m.du.getD (k:Int).toNat bd).rt<cs.length;omega⟩ ⟨by show(0:Int)<=m.sk;omega,by show m.sk<c.sk.length;omega⟩ hM;have Bn:=UT hE (m.du.getD (k:Int).toNat bd).rt m.sk;have Yi:=vo hcs (r:=(m.du.getD (k:Int).toNat bd).rt) ⟨by omega,by omega⟩ r2;clear hM;change Ji c cs (YO es [_,_,0,(cs.getD (m.du.getD (k:Int).toNat bd).rt.toNat ga).la] _)at Bn;change cC abg _ _ _ _ [_,Mn (YO es [(m.du.getD (k:Int).toNat bd).rt,m.sk,0,(cs.getD (m.du.getD (k:Int).toNat bd).rt.toNat ga).la] (Vi c cs (m.du.getD (k:Int).toNat bd).rt m.sk))]at hP;generalize YO es [(m.du.getD (k:Int).toNat bd).rt,m.sk,0,(cs.getD (m.du.getD (k:Int).toNat bd).rt.toNat ga).la] (Vi c cs (m.du.getD (k:Int).toNat bd).rt m.sk)=es2 at*;have r1':Ma c (m.du.getD k bd) (decide ((k:Int)=0))=true:=r1;have Vj:qV c cs (m.du.getD k bd).rt m.sk=0:=r2;have X4:((abi k).map (mW c cs m)).length=k:=by simp
    have iB:(abi (k+1)).map (mW c cs m)=(abi k).map (mW c cs m)++[mW c cs m k]:=by rw[acJ,acD];rfl
    by_cases hk0:k=0
    ·have hd:iv c cs m k=0:=by
      unfold iv;rw[r1',aa7 (by decide),aa7 (by simpa using Vj),aa8 hk0]
     repeat'(first|with_reducible(first|refine aa ?_ ?_|exact⟨⟩|refine DQ ?_|assumption|refine ao ?_|refine av ?_|exact VQ|exact BQ)|((with_reducible apply aA);first|refine bY [0,1] (hR) rfl rfl rfl rfl rfl rfl rfl rfl rfl rfl rfl rfl rfl ?_|refine an (hF) rfl ?_|refine bY [0,1] (hP) rfl rfl rfl rfl rfl rfl rfl rfl rfl rfl rfl rfl rfl ?_)|((with_reducible apply ah);refine ag rfl ?_ ?_;all_goals(intro hbq;(try simp only[bq,r1,r2]at hbq);(try(exfalso;omega))))|refine RQ ?_|((with_reducible apply bG);rfl)|omega)
     all_goals first|omega|skip
     refine LY (((k+1,es2):Nat×List (List Int×yK))) (⟨by simp only;omega,Bn,bM dQ hd⟩) ?_;repeat' with_reducible(first|refine aa ?_ ?_|exact⟨⟩|fail)
     ·show _=ae9 JX ((abi (k+1)).map (mW c cs m))
      rw[iB];subst hk0;simp[JX,mW,qd,fI]
     ·show _=((abi (k+1)).map (mW c cs m)).length
      simp
    ·have hb0:=ko (dQ (k-1) (by omega))
     obtain⟨b1,b2,b3,b4,b5,b6⟩:=kx hb0.1;have bi:(m.du.getD (k-1) bd).rt.toNat<cs.length:=by omega
     have bS:=hcs.st _ bi;have bO:=hcs.ov _ bi;have bL:=hcs.la _ bi;have bE:=hcs.se _ bi;have hbr:=vo hcs (r:=(m.du.getD (k-1) bd).rt) ⟨by omega,by omega⟩ hb0.2;have hfb:=uI hcs (m:=m) (k:=k-1) fun j hj=>by
      have:=kx (ko (dQ j (by omega))).1;omega
     have Zu:qd cs m k=qd cs m (k-1)+(cs.getD (m.du.getD (k-1) bd).rt.toNat ga).la:=by
      obtain⟨k',rfl⟩: ∃ k',k=k'+1:=⟨k-1,by omega⟩;rfl
     have hlb:(((jc cs (m.du.getD (k-1) bd).rt:Nat)):Int)=(cs.getD (m.du.getD (k-1) bd).rt.toNat ga).la:=by unfold jc iQ;omega
     have hB:((abi k).map (mW c cs m)).getD ((k:Int)-1).toNat Ri=⟨cs,(m.du.getD (k-1) bd).rt,(m.du.getD (k-1) bd).rt,m.sk,(m.du.getD (k-1) bd).gI,(m.du.getD (k-1) bd).dw,qd cs m (k-1),gL c cs (m.du.getD (k-1) bd).rt m.sk⟩:=by
      rw[show((k:Int)-1).toNat=k-1 by omega,bW (by omega)];rfl
     generalize hl:(abi k).map (mW c cs m)=l at*;repeat'(first|with_reducible(first|refine aa ?_ ?_|exact⟨⟩|refine DQ ?_|assumption|refine ao ?_|refine av ?_|exact VQ|exact BQ)|((with_reducible apply aA);first|refine bY [0,1] (hR) rfl rfl rfl rfl rfl rfl rfl rfl rfl rfl rfl rfl rfl ?_|refine an (hF) rfl ?_|refine bY [0,1] (hP) rfl rfl rfl rfl rfl rfl rfl rfl rfl rfl rfl rfl rfl ?_)|((with_reducible apply ah);refine ag rfl ?_ ?_;all_goals(intro hbq;(try simp only[bq,r1,r2]at hbq);(try(exfalso;omega))))|((with_reducible apply b8 (n:=21)))|refine RQ ?_|omega)
     rotate_right
     ·refine Stop.mk ?_
      simp only[hB];have d0:iv c cs m k=if(iQ cs (m.du.getD k bd).rt).se.getD 0 0≠(iQ cs (m.du.getD (k-1) bd).rt).se.getD (jc cs (m.du.getD (k-1) bd).rt) 0 then 11 else if(m.du.getD k bd).gI<(m.du.getD (k-1) bd).gI+gL c cs (m.du.getD (k-1) bd).rt m.sk+(m.du.getD k bd).dw then 14 else 0:=by
       rw[iv,r1',aa7 (by decide),aa7 (by simpa using Vj),aa7 hk0]
      repeat'(first|with_reducible(first|refine aa ?_ ?_|exact⟨⟩|(apply q_L;intro hbq))|refine AZ ?_|fail)
      ·have hd:iv c cs m k=11:=by
        have w1:(iQ cs (m.du.getD k bd).rt).se.getD 0 0≠(iQ cs (m.du.getD (k-1) bd).rt).se.getD (jc cs (m.du.getD (k-1) bd).rt) 0:=hbq;rw[d0,aa8 w1]
       have he:je c cs m=11:=by rw[uY q1 q2 q3 nW (by omega) dQ,hd]
       rw[he];refine ij rfl es2 Bn ?_ ?_
       ·rfl
       repeat'(first|with_reducible(first|refine KQ ?_|refine aa ?_ ?_|exact⟨⟩)|rfl)
      next XV=>
       have hd:iv c cs m k=14:=by
        have w1:(iQ cs (m.du.getD k bd).rt).se.getD 0 0=(iQ cs (m.du.getD (k-1) bd).rt).se.getD (jc cs (m.du.getD (k-1) bd).rt) 0:=XV;have w2:(m.du.getD k bd).gI<(m.du.getD (k-1) bd).gI+gL c cs (m.du.getD (k-1) bd).rt m.sk+(m.du.getD k bd).dw:=hbq;rw[d0,aa7 (fun e=>e w1),aa8 w2]
       have he:je c cs m=14:=by rw[uY q1 q2 q3 nW (by omega) dQ,hd]
       rw[he];refine ij rfl es2 Bn ?_ ?_
       ·rfl
       repeat'(first|with_reducible(first|refine KQ ?_|refine aa ?_ ?_|exact⟨⟩)|rfl)
      next XV=>
       have hd:iv c cs m k=0:=by
        have w1:(iQ cs (m.du.getD k bd).rt).se.getD 0 0=(iQ cs (m.du.getD (k-1) bd).rt).se.getD (jc cs (m.du.getD (k-1) bd).rt) 0:=XV;have w2: ¬ (m.du.getD k bd).gI<(m.du.getD (k-1) bd).gI+gL c cs (m.du.getD (k-1) bd).rt m.sk+(m.du.getD k bd).dw:=hbq;rw[d0,aa7 (fun e=>e w1),aa7 w2]
       refine LY (((k+1,es2):Nat×List (List Int×yK))) (⟨by simp only;omega,Bn,bM dQ hd⟩) ?_;repeat' with_reducible(first|refine aa ?_ ?_|exact⟨⟩|fail)
       ·show _=ae9 JX ((abi (k+1)).map (mW c cs m))
        rw[iB];simp[JX,mW,Zu,fI]
       ·show _=((abi (k+1)).map (mW c cs m)).length
        rw[iB];simp
     all_goals first|omega|skip
   ·have hd:iv c cs m k=qV c cs (m.du.getD (k:Int).toNat bd).rt m.sk:=by
     have r1':Ma c (m.du.getD k bd) (decide ((k:Int)=0))=true:=r1;have Vj:qV c cs (m.du.getD k bd).rt m.sk≠0:=r2;unfold iv;rw[r1',aa7 (by decide),aa8 Vj];rfl
    have he:je c cs m=qV c cs (m.du.getD (k:Int).toNat bd).rt m.sk:=by rw[uY q1 q2 q3 nW (by rw[hd];exact r2) dQ,hd]
    rw[he];repeat'(first|with_reducible(first|refine aa ?_ ?_|exact⟨⟩|refine DQ ?_|assumption|refine ao ?_|refine av ?_|exact VQ|exact BQ)|((with_reducible apply aA);first|refine bY [0,1] (hR) rfl rfl rfl rfl rfl rfl rfl rfl rfl rfl rfl rfl rfl ?_|refine an (hF) rfl ?_)|((with_reducible apply ah);refine ag rfl ?_ ?_;all_goals(intro hbq;(try simp only[bq,r1,r2]at hbq);(try(exfalso;omega))))|refine RQ ?_|omega)
    refine ij rfl es hE ?_ ?_
    ·rw[aa7 r2];rfl
    repeat'(first|with_reducible(first|refine KQ ?_|refine aa ?_ ?_|exact⟨⟩)|rfl)
  ·have hd:iv c cs m k=4:=by
    have r1':Ma c (m.du.getD k bd) (decide ((k:Int)=0))=false:=r1;unfold iv;rw[aa8 r1']
   have he:je c cs m=4:=by rw[uY q1 q2 q3 nW (by omega) dQ,hd]
   rw[he];repeat'(first|with_reducible(first|refine aa ?_ ?_|exact⟨⟩|refine DQ ?_|assumption|refine ao ?_|refine av ?_|exact VQ)|((with_reducible apply aA);refine bY [0,1] (hR) rfl rfl rfl rfl rfl rfl rfl rfl rfl rfl rfl rfl rfl ?_)|((with_reducible apply ah);refine ag rfl ?_ ?_;all_goals(intro hbq;(try simp only[bq,r1]at hbq);(try(exfalso;omega))))|refine RQ ?_|omega)
   refine ij rfl es hE ?_ ?_
   ·rfl
   repeat'(first|with_reducible(first|refine KQ ?_|refine aa ?_ ?_|exact⟨⟩)|rfl)
 ·have xW:k=m.du.length:=by omega
  subst xW;have Zw:m.du.length-1<m.du.length:=by omega
  have hfb:=uI hcs (m:=m) (k:=m.du.length-1) fun j hj=>by
   have:=kx (ko (dQ j (by omega))).1;omega
  have hb0:=kx (ko (dQ (m.du.length-1) Zw)).1;have bi:(m.du.getD (m.du.length-1) bd).rt.toNat<cs.length:=by omega
  have bS:=hcs.st _ bi;have bO:=hcs.ov _ bi;have bL:=hcs.la _ bi;have Zu:qd cs m m.du.length=qd cs m (m.du.length-1)+(cs.getD (m.du.getD (m.du.length-1) bd).rt.toNat ga).la:=by
   obtain⟨k',X2⟩: ∃ k',m.du.length=k'+1:=⟨m.du.length-1,by omega⟩;rw[X2];rfl
  have hB:((abi m.du.length).map (mW c cs m)).getD (m.du.length-1) Ri=mW c cs m (m.du.length-1):=bW Zw;have hS:=OS ((abi m.du.length).map (mW c cs m)) (mW c cs m (m.du.length-1)) (by simp;omega) (by simp;omega) (by rw[abr,acV];exact hB) (by unfold mW;simp only;omega);have hS2:(mW c cs m (m.du.length-1)).fst+((mW c cs m (m.du.length-1)).cs.getD (mW c cs m (m.du.length-1)).i.toNat ga).la+1=qd cs m m.du.length+1:=by rw[Zu];rfl
  rw[hS2]at hS
  have he:=Hu q1 q2 q3 dQ;repeat'(first|with_reducible(first|refine aa ?_ ?_|exact⟨⟩|(apply q_L;intro hbq))|((with_reducible apply aA);refine an (hS) rfl ?_)|refine AZ ?_|fail)
  ·rw[aa8 hbq]at he
   rw[he];refine ij rfl es hE ?_ ?_
   ·rfl
   repeat'(first|with_reducible(first|refine KQ ?_|refine aa ?_ ?_|exact⟨⟩)|rfl)
  ·rw[aa7 hbq]at he
   rw[he];refine ij rfl es hE ?_ ?_
   ·rfl
   repeat'(first|with_reducible(first|refine KQ ?_|refine aa ?_ ?_|exact⟨⟩)|rfl)
def MK {d:Nat} {H:SH}: ∀ {l:SL},lk l d=none->(SS l H).sl d= .c .any
 |[],_=>rfl
 |(e,x)::l,h=>by
  unfold lk at h;split at h
  ·cases h
  next hb=>
   have hne:d≠e:=fun k=>by rw[k,Nat.beq_refl]at hb;cases hb
   show fq (SS l H).sl e _ d=_;rw[aH _ _ hne];exact MK h
def vK {d:Nat} {l:SL} (h:lk l d=none):SS l H=SS ((d,.v (.c (.c .any)))::l) H:=by
 show _=St.mk (fq (SS l H).sl d (.c .any)) (SS l H).H;have:fq (SS l H).sl d (.c .any)=(SS l H).sl:=by
  funext i;by_cases e:i=d
  ·subst e;rw[aQ,MK h]
  ·rw[aH _ _ e]
 rw[this]
def fR (c:dT):List rZ:=c.rt.map fun r=>oa c.L r.st r.ov
def zt (s:I8):Bool:=j5 s.len s.sp s.ac s.br
def nQ (c:dT) (i:Nat):Int:=dA c.L ⟨(c.rt.getD i fc).st,(c.rt.getD i fc).ov⟩
def iq (c:dT):Int:=
 if bH c.L≠0 then bH c.L else
 if 8<c.sk.length\/48<c.rt.length\/10<c.ms.length then 7 else
 if c.sk.all zt=false then 4 else
 if ku (nQ c) c.rt.length≠0 then ku (nQ c) c.rt.length else
 ku (fun j=>je c (fR c) (c.ms.getD j aK)) c.ms.length
def JM {c:dT} {i:Nat} (hi:i<c.rt.length):(fR c).getD i ga=oa c.L (c.rt.getD i fc).st (c.rt.getD i fc).ov:=by
 unfold fR;rw[GD,ady,GD,GE hi];rfl
def XO {L:cg} (hL:cP L) {st:List bX} {ov:Int} (h:dA L ⟨st,ov⟩=0):cP (oa L st ov).L:=by
 have⟨n1,n2,n3,n4,n5,v1,v2,v3,v4⟩:=dJ (JF h);refine⟨fun x hx=> ?_,fun x hx=> ?_,fun x hx=> ?_,acS n1 (by decide),acS n2 (by decide),acS n3 (by decide),acS n4 (by decide)⟩
 ·have:=kA (v1 x hx);omega
 ·have:=kA (v2 x hx);omega
 ·obtain⟨y,hy,rfl⟩:=adX.1 hx
  have:=kA (v3 y hy).1;omega
def T6 {c:dT} (hc:dp c) (h: ∀ i,i<c.rt.length->nQ c i=0):Tt c (fR c):=by
 have hlen:(fR c).length=c.rt.length:=by unfold fR;simp
 have key: ∀ i,i<(fR c).length->qm c.L ⟨(c.rt.getD i fc).st,(c.rt.getD i fc).ov⟩:=fun i hi=>dq (h i (by omega));refine⟨hlen,fun i hi=> ?_,fun i hi=> ?_,fun i hi=> ?_,fun i hi=> ?_,fun i hi=> ?_⟩<;>have hk:=key i hi<;>have h1:=hk.len<;>have h2:=hk.ov<;>have h3:=hk.rS<;>have h4:=hk.two<;>simp only at h1 h2 h3 h4<;>rw[JM (by omega)]
 ·exact XO hc.lay (h i (by omega))
 ·have:(oa c.L (c.rt.getD i fc).st (c.rt.getD i fc).ov).st.length=(c.rt.getD i fc).st.length:=gT (ov:=(c.rt.getD i fc).ov)
  omega
 ·exact⟨h3,h2⟩
 ·have:(oa c.L (c.rt.getD i fc).st (c.rt.getD i fc).ov).st.length=(c.rt.getD i fc).st.length:=gT (ov:=(c.rt.getD i fc).ov)
  have e:(oa c.L (c.rt.getD i fc).st (c.rt.getD i fc).ov).ov=(c.rt.getD i fc).ov:=rfl;have e2:(oa c.L (c.rt.getD i fc).st (c.rt.getD i fc).ov).la=(c.rt.getD i fc).st.length-(c.rt.getD i fc).ov-1:=rfl;omega
 ·have:(oa c.L (c.rt.getD i fc).st (c.rt.getD i fc).ov).st.length=(c.rt.getD i fc).st.length:=gT (ov:=(c.rt.getD i fc).ov)
  have e:=(D7 c.L (c.rt.getD i fc).st (c.rt.getD i fc).st.length).1;have e2:(oa c.L (c.rt.getD i fc).st (c.rt.getD i fc).ov).se.length=(o7 c.L (c.rt.getD i fc).st (c.rt.getD i fc).st.length).se.length:=rfl;omega
def ju {l:List α} {i:Nat} {d:α} (h:i<l.length):l.getD i d∈l:=by
 rw[GD,GE h];exact acC h
def Ll {l:List I8} {p:I8->Bool} {i:Nat} (hi:i<l.length) (h:p (l.getD i iA)=false):l.all p=false:=by
 rw[GD,GE hi]at h
 rw[aei];intro ha;have:=acH.1 ha _ (acC hi);rw[show(some l[i]).getD iA=l[i]from rfl,this]at h
 cases h
def Gc {l:List I8} {p:I8->Bool} (h: ∀ j,j<l.length->p (l.getD j iA)=true):l.all p=true:=by
 rw[acH];intro x hx;obtain⟨i,hi,rfl⟩:=acB.1 hx;have:=h i hi
 rwa [GD,GE hi]at this
def HK (c:dT) (hc:dp c):cC abg 97 [dB c] [] (.dt [.c (.c .any),.c (xI (iq c))]) []:=by
 have hL:=Cp c.L hc.lay;have G1:=hc.sk;have ZD:=hc.rt;have QE:=hc.ms;unfold cc at hL;by_cases w1:bH c.L=0
 rotate_right
 ·have he:iq c=bH c.L:=aa8 w1
  rw[he];refine PQ afh ?_;repeat'(first|with_reducible(first|refine aa ?_ ?_|exact⟨⟩|refine DQ ?_|refine ao ?_)|((with_reducible apply aA);refine an (hL) rfl ?_)|((with_reducible apply ah);refine ag rfl ?_ ?_;all_goals(intro hbq;(try simp only[bq,w1]at hbq);(try(exfalso;omega))))|((with_reducible first|apply b8 (n:=3)|apply b8 (n:=5)|apply b8 (n:=10)|apply b8 (n:=18)|apply b8 (n:=26)|apply b8 (n:=29)))|refine RQ ?_|fail)
  refine Stop.mk ?_;refine aT (aY ?_);refine db rfl ?_ (cN ?_)
  ·repeat'(first|exact⟨⟩|apply acP|fail)
  refine jq (SS [sI 3 (bH c.L)] []) ?_ ?_
  ·
   refine WZ ?_;repeat' with_reducible(first|refine aa ?_ ?_|exact⟨⟩|fail)
  rw[vK (d:=2) rfl];repeat'(first|with_reducible(first|refine aa ?_ ?_|exact⟨⟩)|refine AY ?_|fail)
  all_goals rfl
 rw[w1]at hL
 refine PQ afh ?_;repeat'(first|with_reducible(first|refine aa ?_ ?_|exact⟨⟩|refine DQ ?_|assumption|refine ao ?_|refine av ?_|refine XC ?_ ?_)|((with_reducible apply aA);refine an (hL) rfl ?_)|((with_reducible first|apply b8 (n:=3)|apply b8 (n:=5)|apply b8 (n:=10)|apply b8 (n:=18)|apply b8 (n:=26)|apply b8 (n:=29)))|refine RQ ?_|(intro(aX:(_:Bool)=_);(try simp only[bq]at aX))|((with_reducible apply cF);simp only[bq])|(simp only[aX,bq];done)|((with_reducible apply q_L);intro hbq)|fail)
 ·have he:iq c=7:=by unfold iq;rw[aa7 (by simpa using w1),aa8 (by omega)]
  rw[he];refine Stop.mk ?_;refine aT (aY ?_);refine db rfl ?_ (cN ?_)
  ·repeat'(first|exact⟨⟩|apply acP|fail)
  refine jq (SS [sI 3 (7)] []) ?_ ?_
  ·
   refine WZ ?_;repeat' with_reducible(first|refine aa ?_ ?_|exact⟨⟩|fail)
  rw[vK (d:=2) rfl];repeat'(first|with_reducible(first|refine aa ?_ ?_|exact⟨⟩)|refine AY ?_|fail)
  all_goals rfl
 have w2: ¬ (8<c.sk.length\/48<c.rt.length\/10<c.ms.length):=by omega
 refine aI (fun i:Nat=>SS [sC 1 (pB 0),sC 38 (RN c.sk),sI 39 c.sk.length,sI 40 i] [some (.cells (lx c))]) (fun i=>i<=c.sk.length/\ ∀ j,j<i->zt (c.sk.getD j iA)=true) (fun i=>c.sk.length-i) 0 ?_ ⟨by omega,fun j hj=>absurd hj (by omega)⟩ ?_
 ·
  refine WZ ?_;repeat' with_reducible(first|refine aa ?_ ?_|exact⟨⟩|fail)
  all_goals skip
 rintro i ⟨hi,dQ⟩;have hC:=JL (c.sk.getD (i:Int).toNat iA).nm (c.sk.getD (i:Int).toNat iA).len (c.sk.getD (i:Int).toNat iA).sp (c.sk.getD (i:Int).toNat iA).ac (c.sk.getD (i:Int).toNat iA).br;by_cases hil:i<c.sk.length
 ·rcases acZ (zt (c.sk.getD (i:Int).toNat iA))with r1|r1
  ·change cC abg _ _ [] (vB (zt (c.sk.getD (i:Int).toNat iA))) []at hC
   repeat'(first|with_reducible(first|refine aa ?_ ?_|exact⟨⟩|refine DQ ?_|assumption|refine ao ?_|refine av ?_|exact VQ)|((with_reducible apply aA);refine an (hC) rfl ?_)|((with_reducible apply ah);refine ag rfl ?_ ?_;all_goals(intro hbq;(try simp only[bq,r1]at hbq);(try(exfalso;omega))))|refine RQ ?_|omega)
   refine LY (i+1) (⟨by omega,bM dQ r1⟩) ?_;repeat' with_reducible(first|refine aa ?_ ?_|exact⟨⟩|fail)
  ·have he:iq c=4:=by unfold iq;rw[aa7 (by simpa using w1),aa7 w2,aa8 (Ll hil r1)]
   rw[he];change cC abg _ _ [] (vB (zt (c.sk.getD (i:Int).toNat iA))) []at hC;repeat'(first|with_reducible(first|refine aa ?_ ?_|exact⟨⟩|refine DQ ?_|assumption|refine ao ?_|refine av ?_|exact VQ)|((with_reducible apply aA);refine an (hC) rfl ?_)|((with_reducible apply ah);refine ag rfl ?_ ?_;all_goals(intro hbq;(try simp only[bq,r1]at hbq);(try(exfalso;omega))))|((with_reducible first|apply b8 (n:=3)|apply b8 (n:=5)|apply b8 (n:=10)|apply b8 (n:=18)|apply b8 (n:=26)|apply b8 (n:=29)))|refine RQ ?_|omega)
   refine Stop.mk ?_;refine aT (aY ?_);refine db rfl ?_ (cN ?_)
   ·repeat'(first|exact⟨⟩|apply acP|fail)
   refine jq (SS [sI 3 (4)] []) ?_ ?_
   ·
    refine WZ ?_;repeat' with_reducible(first|refine aa ?_ ?_|exact⟨⟩|fail)
   rw[vK (d:=2) rfl];repeat'(first|with_reducible(first|refine aa ?_ ?_|exact⟨⟩)|refine AY ?_|fail)
   all_goals rfl
 have w3:c.sk.all zt=true:=Gc fun j hj=>dQ j (by omega);clear hC dQ;repeat'(first|with_reducible(first|refine aa ?_ ?_|exact⟨⟩|(apply q_L;intro hbq))|refine AZ ?_|fail)
 refine aI (fun i:Nat=>SS [sC 1 (pB 0),sC 7 (pB 2),sC 53 (RM c.rt),sI 54 c.rt.length,sI 55 i] [some (.cells (lx c)),Mn [],some (.cells [eP c.L.ct,eP c.L.bo,lV c.L.ay,kB c.L.aE,RN c.sk,RM c.rt,vg c.ms,aeG ((fR c).take i),.c (.mh 1),.c (.f .aD)])]) (fun i=>i<=c.rt.length/\ ∀ j,j<i->nQ c j=0) (fun i=>c.rt.length-i) 0 ?_ ⟨by omega,fun j hj=>absurd hj (by omega)⟩ ?_
 ·
  refine WZ ?_;repeat' with_reducible(first|refine aa ?_ ?_|exact⟨⟩|fail)
  all_goals skip
  all_goals rfl
 rintro i ⟨hi,dQ⟩;by_cases hil:i<c.rt.length
 ·have hb:=hc.gK _ (ju (d:=fc) hil)
  have hR:=xy c.L hc.lay (c.rt.getD (i:Int).toNat fc).st (c.rt.getD (i:Int).toNat fc).ov hb.1 hb.2;unfold cc at hR;change cC abg _ _ [] (vI (nQ c i)) []at hR;by_cases r1:nQ c i=0
  ·have hN:=EN c.L hc.lay (c.rt.getD (i:Int).toNat fc).st (c.rt.getD (i:Int).toNat fc).ov r1
   unfold cc at hN;have iB:(fR c).take (i+1)=(fR c).take i++[oa c.L (c.rt.getD (i:Int).toNat fc).st (c.rt.getD (i:Int).toNat fc).ov]:=by
    have hcl:i<(fR c).length:=by unfold fR;simpa using hil
    rw[abO hcl];congr 2;have:=JM hil;rw[GD,GE hcl]at this
    exact this
   have X4:((fR c).take i).length=i:=by
    rw[abk];unfold fR;rw[abr];omega
   generalize (fR c).take i=cs0 at*;repeat'(first|with_reducible(first|refine aa ?_ ?_|exact⟨⟩|refine DQ ?_|assumption|refine ao ?_|refine av ?_|exact VQ|exact BQ)|((with_reducible apply aA);first|refine an (hR) rfl ?_|refine an (hN) rfl ?_)|((with_reducible apply ah);refine ag rfl ?_ ?_;all_goals(intro hbq;(try simp only[bq,r1]at hbq);(try(exfalso;omega))))|refine RQ ?_|((with_reducible apply bG);rfl)|omega)
   all_goals first|omega|skip
   refine LY (i+1) (⟨by omega,bM dQ r1⟩) ?_;repeat' with_reducible(first|refine aa ?_ ?_|exact⟨⟩|fail)
   ·rw[iB]
    simp[Qj,fI]
   ·rw[iB]
    simp
  ·have he:iq c=nQ c i:=by unfold iq;rw[aa7 (by simpa using w1),aa7 w2,aa7 (by rw[w3];decide),mi hil r1 dQ,aa8 r1]
   rw[he];repeat'(first|with_reducible(first|refine aa ?_ ?_|exact⟨⟩|refine DQ ?_|assumption|refine ao ?_|refine av ?_|exact VQ)|((with_reducible apply aA);refine an (hR) rfl ?_)|((with_reducible apply ah);refine ag rfl ?_ ?_;all_goals(intro hbq;(try simp only[bq,r1]at hbq);(try(exfalso;omega))))|((with_reducible first|apply b8 (n:=3)|apply b8 (n:=5)|apply b8 (n:=10)|apply b8 (n:=18)|apply b8 (n:=26)|apply b8 (n:=29)))|refine RQ ?_|omega)
   refine Stop.mk ?_;refine aT (aY ?_);refine db rfl ?_ (cN ?_)
   ·repeat'(first|exact⟨⟩|apply acP|fail)
   refine jq (SS [sI 3 (nQ c i)] []) ?_ ?_
   ·
    refine WZ ?_;repeat' with_reducible(first|refine aa ?_ ?_|exact⟨⟩|fail)
   rw[vK (d:=2) rfl];repeat'(first|with_reducible(first|refine aa ?_ ?_|exact⟨⟩)|refine AY ?_|fail)
   all_goals rfl
 have w4: ∀ j,j<c.rt.length->nQ c j=0:=fun j hj=>dQ j (by omega);have hie:i=c.rt.length:=by omega
 have htk:(fR c).take i=fR c:=aca (by unfold fR;simp;omega);have hcs:=T6 hc w4;rw[htk];clear dQ;repeat'(first|with_reducible(first|refine aa ?_ ?_|exact⟨⟩|(apply q_L;intro hbq))|refine AZ ?_|fail)
 refine aI (fun x:Nat×List (List Int×yK)×List (List Bl)=>SS [sC 1 (pB 0),sC 7 (pB 2),sC 81 (vg c.ms),sI 82 c.ms.length,sI 83 x.1] [some (.cells (lx c)),Mn x.2.1,xO c (fR c) x.2.2]) (fun x=>(x.1<=c.ms.length/\x.2.2.length=x.1)/\Ji c (fR c) x.2.1/\ ∀ j,j<x.1->je c (fR c) (c.ms.getD j aK)=0) (fun x=>c.ms.length-x.1) (0,[],[]) ?_ ⟨⟨acG _,rfl⟩,⟨ET,fun r s p hp=>by simp[cH]at hp⟩,fun j hj=>absurd hj (ac8 _)⟩ ?_
 ·
  refine WZ ?_;repeat' with_reducible(first|refine aa ?_ ?_|exact⟨⟩|fail)
  all_goals skip
  all_goals rfl
 rintro⟨j,es,ms⟩ ⟨⟨hj,hml⟩,hE,dQ⟩;simp only at hj hml hE dQ⊢;by_cases hjl:j<c.ms.length
 ·have hb:=hc.mss _ (ju (d:=aK) hjl)
  have hM:=Nx c hc (fR c) hcs ms es hE (c.ms.getD (j:Int).toNat aK) hb;repeat'(first|with_reducible(first|refine aa ?_ ?_|exact⟨⟩|(apply q_L;intro hbq))|refine AZ ?_|fail)
  all_goals skip
  refine ug [2,1] hM rfl rfl rfl rfl rfl rfl rfl rfl ?_;rintro BC hE';refine⟨_,_,_,_,rfl,rfl,rfl,rfl,rfl,?_⟩;by_cases r1:je c (fR c) (c.ms.getD (j:Int).toNat aK)=0
  ·
   repeat'(first|with_reducible(first|refine aa ?_ ?_|exact⟨⟩|refine DQ ?_|refine ao ?_)|((with_reducible apply ah);refine ag rfl ?_ ?_;all_goals(intro hbq;(try simp only[bq,r1]at hbq);(try(exfalso;omega))))|refine RQ ?_|((with_reducible apply bG);rfl)|omega)
   all_goals first|omega|skip
   refine LY (((j+1,BC,ms++[(abi (c.ms.getD j aK).du.length).map (mW c (fR c) (c.ms.getD j aK))]):Nat×List (List Int×yK)×List (List Bl))) (⟨⟨by simp only;omega,by simp only;rw[acT,hml];rfl⟩,hE',bM dQ r1⟩) ?_;repeat' with_reducible(first|refine aa ?_ ?_|exact⟨⟩|fail)
   ·rw[aa8 r1]
    simp[Wg]
   ·simp
  ·have he:iq c=je c (fR c) (c.ms.getD j aK):=by
    unfold iq;rw[aa7 (by simpa using w1),aa7 w2,aa7 (by rw[w3];decide),aa7 (by rw[mj w4];simp)];exact mi (f:=fun j=>je c (fR c) (c.ms.getD j aK)) hjl r1 dQ
   rw[he];repeat'(first|with_reducible(first|refine aa ?_ ?_|exact⟨⟩|refine DQ ?_|refine ao ?_)|((with_reducible apply ah);refine ag rfl ?_ ?_;all_goals(intro hbq;(try simp only[bq,r1]at hbq);(try(exfalso;omega))))|((with_reducible first|apply b8 (n:=3)|apply b8 (n:=5)|apply b8 (n:=10)|apply b8 (n:=18)|apply b8 (n:=26)|apply b8 (n:=29)))|refine RQ ?_|fail)
   refine Stop.mk ?_;refine aT (aY ?_);refine db rfl ?_ (cN ?_)
   ·repeat'(first|exact⟨⟩|apply acP|fail)
   refine jq (SS [sI 3 (je c (fR c) (c.ms.getD (j:Int).toNat aK))] []) ?_ ?_
   ·
    refine WZ ?_;repeat' with_reducible(first|refine aa ?_ ?_|exact⟨⟩|fail)
   rw[vK (d:=2) rfl];repeat'(first|with_reducible(first|refine aa ?_ ?_|exact⟨⟩)|refine AY ?_|fail)
   all_goals rfl
 have he:iq c=0:=by
  unfold iq;rw[aa7 (by simpa using w1),aa7 w2,aa7 (by rw[w3];decide),aa7 (by rw[mj w4];simp)];exact mj fun i hi=>dQ i (by omega)
 rw[he];repeat'(first|with_reducible(first|refine aa ?_ ?_|exact⟨⟩|refine DQ ?_|refine ao ?_|refine XC ?_ ?_)|((with_reducible first|apply b8 (n:=3)|apply b8 (n:=5)|apply b8 (n:=10)|apply b8 (n:=18)|apply b8 (n:=26)|apply b8 (n:=29)))|refine RQ ?_|((with_reducible apply q_L);intro hbq)|fail)
 refine Stop.mk ?_;refine aT (aY ?_);refine db rfl ?_ (cN ?_)
 ·repeat'(first|exact⟨⟩|apply acP|fail)
 refine jq (SS [sI 3 (0)] []) ?_ ?_
 ·
  refine WZ ?_;repeat' with_reducible(first|refine aa ?_ ?_|exact⟨⟩|fail)
 rw[vK (d:=2) rfl];repeat'(first|with_reducible(first|refine aa ?_ ?_|exact⟨⟩)|refine AY ?_|fail)
 all_goals rfl
def Kw (c:dT) (hc:dp c):cC abg 62 [dB c] [] (vI (iq c)) []:=by
 have h:=HK c hc;unfold dB at h⊢;refine PQ Tryz.func62 ?_;repeat'(first|with_reducible(first|refine aa ?_ ?_|exact⟨⟩)|((with_reducible apply aA);refine an (h) rfl ?_)|refine AY ?_|fail)
 all_goals rfl
def cW (c:dT) (r:Int):jB:=c.rt.getD r.toNat fc
def cd (c:dT) (t k:Nat):OY:=(c.ms.getD t aK).du.getD k bd
def SF (st:List bX) (ov:Int) (hl:st.length<=9223372036854775807) (h0:0<=ov) (h1:ov+1<=st.length):cC abg 107 [sX st ov] [] (vI (st.getD ((st.length:Int)-ov-1).toNat bm).sec) []:=by
 refine PQ Tryz.func107 ?_;refine AY ?_;and_intros
 all_goals first|omega|rfl
def OT (st:List bX) (ov:Int) (h1:0<st.length):cC abg 108 [sX st ov] [] (vI (st.getD 0 bm).sec) []:=by
 refine PQ Tryz.func108 ?_;refine AY ?_;and_intros
 all_goals first|omega|rfl
def pO (c:dT) (t k:Nat) (ht:t<c.ms.length) (hk:k<(c.ms.getD t aK).du.length) (hr:0<=(cd c t k).rt/\(cd c t k).rt<c.rt.length):cC abg 61 [dB c,vI t,vI k] [] (sX (cW c (cd c t k).rt).st (cW c (cd c t k).rt).ov) []:=by
 unfold cd at hr;unfold dB;refine PQ Tryz.func61 ?_;refine AY ?_;and_intros
 all_goals first|omega|rfl|(simp only[abh];omega)
def rP (c:dT) (t k:Nat) (ht:t<c.ms.length) (hk:k<(c.ms.getD t aK).du.length) (hr:0<=(cd c t k).rt/\(cd c t k).rt<c.rt.length) (hl:(cW c (cd c t k).rt).st.length<=9223372036854775807) (h0:0<=(cW c (cd c t k).rt).ov/\(cW c (cd c t k).rt).ov<=(cW c (cd c t k).rt).st.length):cC abg 30 [dB c,vI t,vI k] [] (vI ((cW c (cd c t k).rt).st.length-(cW c (cd c t k).rt).ov-1)) []:=by
 have h1:=pO c t k ht hk hr;have h2:=re _ (cW c (cd c t k).rt).ov hl h0;unfold dB at h1⊢;refine PQ Tryz.func30 ?_;repeat'(first|with_reducible(first|refine aa ?_ ?_|exact⟨⟩|refine DQ ?_|fail)|((with_reducible apply aA);first|refine an (h1) rfl ?_|refine an (h2) rfl ?_)|refine RQ ?_|fail)
 all_goals rfl
def EZ (c:dT) (t k:Nat) (ht:t<c.ms.length) (hk:k<(c.ms.getD t aK).du.length) (hr:0<=(cd c t k).rt/\(cd c t k).rt<c.rt.length) (hs:0<=(c.ms.getD t aK).sk/\(c.ms.getD t aK).sk<c.sk.length) (f g a b:Int) (x y z:List Int) (v r e:Int)
  (hM:cC abg 43 [cc c.L,sX (cW c (cd c t k).rt).st (cW c (cd c t k).rt).ov,.agg (IZ (bT c (c.ms.getD t aK).sk)),vI f,vI g] [] (.dt [.agg (nu a b x y z v r),.c (xI e)]) []):
  cC abg 54 [dB c,vI t,vI k,vI f,vI g] [] (.agg (nu a b x y z v r)) []:=by
 unfold cd at hr;unfold cc at hM;unfold dB;refine PQ Tryz.func54 ?_;repeat'(first|with_reducible(first|refine aa ?_ ?_|exact⟨⟩)|((with_reducible apply aA);refine an (hM) rfl ?_)|refine AY ?_|fail)
 all_goals first|omega|rfl|(simp only[abh];omega)
def rN (c:dT) (t k:Nat) (ht:t<c.ms.length) (hk:k<(c.ms.getD t aK).du.length) (hr:0<=(cd c t k).rt/\(cd c t k).rt<c.rt.length) (hs:0<=(c.ms.getD t aK).sk/\(c.ms.getD t aK).sk<c.sk.length) (hl:(cW c (cd c t k).rt).st.length<=9223372036854775807) (h0:0<=(cW c (cd c t k).rt).ov/\(cW c (cd c t k).rt).ov<=(cW c (cd c t k).rt).st.length) (a b:Int) (x y z:List Int) (v r e:Int)
  (hM:cC abg 43 [cc c.L,sX (cW c (cd c t k).rt).st (cW c (cd c t k).rt).ov,.agg (IZ (bT c (c.ms.getD t aK).sk)),vI 0,vI ((cW c (cd c t k).rt).st.length-(cW c (cd c t k).rt).ov-1)] [] (.dt [.agg (nu a b x y z v r),.c (xI e)]) []):
  cC abg 21 [dB c,vI t,vI k] [] (.agg (nu a b x y z v r)) []:=by
 have h1:=rP c t k ht hk hr hl h0;have h2:=EZ c t k ht hk hr hs _ _ a b x y z v r e hM;unfold dB at h1 h2⊢;refine PQ Tryz.func21 ?_;repeat'(first|with_reducible(first|exact BQ|refine aa ?_ ?_|exact⟨⟩|refine DQ ?_|fail)|((with_reducible apply aA);first|refine an (h1) rfl ?_|refine an (h2) rfl ?_)|refine RQ ?_)
 all_goals rfl
def yg {c:dT} {r:Int} (hr:0<=r/\r<c.rt.length):iQ (fR c) r=oa c.L (cW c r).st (cW c r).ov:=JM (by omega)
def lA {c:dT} (h: ∀ i,i<c.rt.length->nQ c i=0) {r:Int} (hr:0<=r/\r<c.rt.length):dA c.L ⟨(cW c r).st,(cW c r).ov⟩=0:=h r.toNat (by omega)
def rQ {c:dT} (h: ∀ i,i<c.rt.length->nQ c i=0) {r:Int} (hr:0<=r/\r<c.rt.length) (s:Int):qV c (fR c) r s=fl c.L ⟨(cW c r).st,(cW c r).ov⟩ (bT c s).len (bT c s).sp (bT c s).ac (bT c s).br:=by
 unfold qV;rw[yg hr];exact Xo (lA h hr) _ _ _ _
def mw {st:List bX} {ov:Int} (h:(n:Int)=st.length-ov-1):fP st ov 0 n=⟨st,ov⟩:=by
 unfold fP;rw[aa8 h];rfl
def vn {c:dT} (h: ∀ i,i<c.rt.length->nQ c i=0) {r:Int} (hr:0<=r/\r<c.rt.length) (s:Int):gL c (fR c) r s=m8 c.L ⟨(cW c r).st,(cW c r).ov⟩ (bT c s).len (bT c s).sp (bT c s).ac (bT c s).br:=by
 have hk:=dq (lA h hr);have h2:=hk.two;have h3:=hk.rS;simp only at h2 h3;unfold gL Ob jc;rw[yg hr];have e:fP (oa c.L (cW c r).st (cW c r).ov).st (oa c.L (cW c r).st (cW c r).ov).ov 0 (oa c.L (cW c r).st (cW c r).ov).la.toNat=cR c.L (cW c r).st (cW c r).ov:=by
  apply mw;have e1:(oa c.L (cW c r).st (cW c r).ov).st.length=(cW c r).st.length:=gT (ov:=(cW c r).ov);have e2:(oa c.L (cW c r).st (cW c r).ov).la=(cW c r).st.length-(cW c r).ov-1:=rfl;have e3:(oa c.L (cW c r).st (cW c r).ov).ov=(cW c r).ov:=rfl;rw[e1,e2,e3];omega
 rw[e];exact Xq (lA h hr) _ _ _ _
def Nq (L:cg) (st:List bX) (b:Cb) (i:Nat):(lj L st b i).se=b.se++[(st.getD i bm).sec]:=by
 by_cases h:i=0
 ·rw[← qA L st b h]
 ·rw[qB L st b h];split<;>rfl
def Xr (L:cg) (st:List bX) (i:Nat):(o7 L st i).se=(abi i).map fun j=>(st.getD j bm).sec:=by
 induction i with
 |zero=>rfl
 |succ i ih=>
  rw[acJ,acD,← ih];exact Nq L st _ i
def WL {c:dT} {r:Int} (hr:0<=r/\r<c.rt.length) (hj:j<(cW c r).st.length):(iQ (fR c) r).se.getD j 0=((cW c r).st.getD j bm).sec:=by
 rw[yg hr];show(o7 c.L (cW c r).st (cW c r).st.length).se.getD j 0=_;rw[Xr,bW hj]
def Wz {c:dT} {r:Int} (hr:0<=r/\r<c.rt.length):(iQ (fR c) r).la=(cW c r).st.length-(cW c r).ov-1:=by rw[yg hr];rfl
def EG {c:dT} {d:OY} {k:Nat}:Ma c d (decide ((k:Int)=0))=true↔0<=d.rt/\d.rt<c.rt.length/\60<=d.gI/\d.gI<=2097152/\0<=d.dw/\d.dw<=7200/\(k=0->d.dw=0):=by
 unfold Ma;simp only[abt,decide_eq_true_eq,Bool.not_eq_true',Bool.and_eq_false_iff,decide_eq_false_iff_not,Bool.not_eq_false'];constructor
 ·rintro⟨⟨⟨⟨⟨⟨a,b⟩,c⟩,d⟩,e⟩,f⟩,g⟩
  refine⟨a,b,c,d,e,f,fun hk=> ?_⟩;rcases g with g|g
  ·omega
  ·exact g
 ·rintro⟨a,b,c,d,e,f,g⟩
  refine⟨⟨⟨⟨⟨⟨a,b⟩,c⟩,d⟩,e⟩,f⟩,?_⟩;by_cases hk:k=0
  ·exact .inr (g hk)
  ·exact .inl (by omega)
def Ec (c:dT) (hc:dp c) (h4: ∀ i,i<c.rt.length->nQ c i=0) (t k:Nat) (ht:t<c.ms.length) (hk:k<(c.ms.getD t aK).du.length) (hs:0<=(c.ms.getD t aK).sk/\(c.ms.getD t aK).sk<c.sk.length) (hp:k=0\/iv c (fR c) (c.ms.getD t aK) (k-1)=0):
  cC abg 68 [dB c,vI t,vI k] [] (vI (iv c (fR c) (c.ms.getD t aK) k)) []:=by
 have QE:=hc.ms;have hdl:=hc.mss _ (ju (d:=aK) ht);have hk2:k<(c.ms.getD (t:Int).toNat aK).du.length:=hk;have CD:0<=(c.ms.getD (t:Int).toNat aK).sk/\(c.ms.getD (t:Int).toNat aK).sk<c.sk.length:=hs;by_cases r1:Ma c (cd c t k) (decide ((k:Int)=0))=true
 rotate_right
 ·have hd:iv c (fR c) (c.ms.getD t aK) k=4:=by
   unfold iv;exact aa8 (aei.2 r1)
  rw[hd];rw[EG]at r1
  have r2: ¬ (0<=((c.ms.getD (t:Int).toNat aK).du.getD (k:Int).toNat bd).rt/\((c.ms.getD (t:Int).toNat aK).du.getD (k:Int).toNat bd).rt<c.rt.length/\60<=((c.ms.getD (t:Int).toNat aK).du.getD (k:Int).toNat bd).gI/\((c.ms.getD (t:Int).toNat aK).du.getD (k:Int).toNat bd).gI<=2097152/\0<=((c.ms.getD (t:Int).toNat aK).du.getD (k:Int).toNat bd).dw/\((c.ms.getD (t:Int).toNat aK).du.getD (k:Int).toNat bd).dw<=7200/\(k=0->((c.ms.getD (t:Int).toNat aK).du.getD (k:Int).toNat bd).dw=0)):=r1;unfold dB;refine PQ adF ?_;repeat'(first|with_reducible(first|exact VQ|refine aa ?_ ?_|exact⟨⟩|refine DQ ?_|assumption)|with_reducible(refine ao ?_)|((with_reducible apply ah);refine ag rfl ?_ ?_;all_goals(intro hbq;(try simp only[bq]at hbq);(try(exfalso;omega))))|refine RQ ?_|(intro(aX:(_:Bool)=_);(try simp only[bq]at aX))|((with_reducible apply cF);simp only[bq])|(simp only[aX,bq];done)|omega)
  all_goals first|omega|rfl|skip
 rw[EG]at r1
 have g:0<=((c.ms.getD (t:Int).toNat aK).du.getD (k:Int).toNat bd).rt/\((c.ms.getD (t:Int).toNat aK).du.getD (k:Int).toNat bd).rt<c.rt.length/\60<=((c.ms.getD (t:Int).toNat aK).du.getD (k:Int).toNat bd).gI/\((c.ms.getD (t:Int).toNat aK).du.getD (k:Int).toNat bd).gI<=2097152/\0<=((c.ms.getD (t:Int).toNat aK).du.getD (k:Int).toNat bd).dw/\((c.ms.getD (t:Int).toNat aK).du.getD (k:Int).toNat bd).dw<=7200/\(k=0->((c.ms.getD (t:Int).toNat aK).du.getD (k:Int).toNat bd).dw=0):=r1;have r1':Ma c ((c.ms.getD t aK).du.getD k bd) (decide ((k:Int)=0))=true:=EG.2 r1;have hr:0<=(cd c t k).rt/\(cd c t k).rt<c.rt.length:=⟨r1.1,r1.2.1⟩;have hk1:=dq (lA h4 hr);have kl:=hk1.len;have k1:=hk1.ov;have k2:=hk1.two;have k3:=hk1.rS;simp only at kl k1 k2 k3;have hF:=AK c.L hc.lay (cW c (cd c t k).rt).st (cW c (cd c t k).rt).ov (by omega) (by omega) (bT c (c.ms.getD t aK).sk).nm (bT c (c.ms.getD t aK).sk).len (bT c (c.ms.getD t aK).sk).sp (bT c (c.ms.getD t aK).sk).ac (bT c (c.ms.getD t aK).sk).br;rw[show fl c.L ⟨(cW c (cd c t k).rt).st,(cW c (cd c t k).rt).ov⟩ (bT c (c.ms.getD t aK).sk).len (bT c (c.ms.getD t aK).sk).sp (bT c (c.ms.getD t aK).sk).ac (bT c (c.ms.getD t aK).sk).br=qV c (fR c) (cd c t k).rt (c.ms.getD t aK).sk from(rQ h4 hr _).symm]at hF
 unfold cc at hF;by_cases r2:qV c (fR c) (cd c t k).rt (c.ms.getD t aK).sk=0
 rotate_right
 ·have hd:iv c (fR c) (c.ms.getD t aK) k=qV c (fR c) (cd c t k).rt (c.ms.getD t aK).sk:=by
   have Vj:qV c (fR c) ((c.ms.getD t aK).du.getD k bd).rt (c.ms.getD t aK).sk≠0:=r2;unfold iv;rw[r1',aa7 (by decide),aa8 Vj];rfl
  rw[hd];unfold dB;refine PQ adF ?_;repeat'(first|with_reducible(first|exact BQ|exact VQ|refine aa ?_ ?_|exact⟨⟩|refine DQ ?_|assumption)|((with_reducible apply aA);refine an (hF) rfl ?_)|with_reducible(refine ao ?_)|((with_reducible apply ah);refine ag rfl ?_ ?_;all_goals(intro hbq;(try simp only[bq]at hbq);(try(exfalso;omega))))|refine RQ ?_|(intro(aX:(_:Bool)=_);(try simp only[bq]at aX))|((with_reducible apply cF);simp only[bq])|(simp only[aX,bq];done)|omega)
  all_goals first|omega|rfl|skip
 rw[r2]at hF
 have Vj:qV c (fR c) ((c.ms.getD t aK).du.getD k bd).rt (c.ms.getD t aK).sk=0:=r2;by_cases hk0:k=0
 ·have hd:iv c (fR c) (c.ms.getD t aK) k=0:=by
   unfold iv;rw[r1',aa7 (by decide),aa7 (by simpa using Vj),aa8 hk0]
  rw[hd];unfold dB;refine PQ adF ?_;repeat'(first|with_reducible(first|exact BQ|exact VQ|refine aa ?_ ?_|exact⟨⟩|refine DQ ?_|assumption)|((with_reducible apply aA);refine an (hF) rfl ?_)|with_reducible(refine ao ?_)|((with_reducible apply ah);refine ag rfl ?_ ?_;all_goals(intro hbq;(try simp only[bq]at hbq);(try(exfalso;omega))))|refine RQ ?_|(intro(aX:(_:Bool)=_);(try simp only[bq]at aX))|((with_reducible apply cF);simp only[bq])|(simp only[aX,bq];done)|omega)
  all_goals first|omega|rfl|skip
 have hb:=ko (hp.resolve_left hk0);have hb1:=kx hb.1;have BG:0<=(cd c t (k-1)).rt/\(cd c t (k-1)).rt<c.rt.length:=⟨hb1.1,hb1.2.1⟩;have hkb:=dq (lA h4 BG);have bl:=hkb.len;have b1:=hkb.ov;have b2:=hkb.two;have b3:=hkb.rS;simp only at bl b1 b2 b3;have aaZ:((k-1:Nat):Int)=(k:Int)-1:=by omega
 have R1:=pO c t (k-1) ht (by omega) BG;have R2:=pO c t k ht hk hr;have S1:=SF (cW c (cd c t (k-1)).rt).st (cW c (cd c t (k-1)).rt).ov (by omega) b3 (by omega);have S2:=OT (cW c (cd c t k).rt).st (cW c (cd c t k).rt).ov (by omega);have hn:(((((cW c (cd c t (k-1)).rt).st.length:Int)-(cW c (cd c t (k-1)).rt).ov-1).toNat:Nat):Int)=(cW c (cd c t (k-1)).rt).st.length-(cW c (cd c t (k-1)).rt).ov-1:=by omega
 have hbm:fl c.L ⟨(cW c (cd c t (k-1)).rt).st,(cW c (cd c t (k-1)).rt).ov⟩ (bT c (c.ms.getD t aK).sk).len (bT c (c.ms.getD t aK).sk).sp (bT c (c.ms.getD t aK).sk).ac (bT c (c.ms.getD t aK).sk).br=0:=by rw[← rQ h4 BG];exact hb.2
 have hM:=rf c.L hc.lay (cW c (cd c t (k-1)).rt).st (cW c (cd c t (k-1)).rt).ov (by omega) (by omega) (bT c (c.ms.getD t aK).sk).nm (bT c (c.ms.getD t aK).sk).len (bT c (c.ms.getD t aK).sk).sp (bT c (c.ms.getD t aK).sk).ac (bT c (c.ms.getD t aK).sk).br 0 (((cW c (cd c t (k-1)).rt).st.length:Int)-(cW c (cd c t (k-1)).rt).ov-1).toNat hbm (by omega) (by omega);rw[mw hn,hn]at hM
 have F:=rN c t (k-1) ht (by omega) BG hs (by omega) (by omega) _ _ _ _ _ _ _ _ hM;rw[aaZ]at R1 F
 have hrun:m8 c.L ⟨(cW c (cd c t (k-1)).rt).st,(cW c (cd c t (k-1)).rt).ov⟩ (bT c (c.ms.getD t aK).sk).len (bT c (c.ms.getD t aK).sk).sp (bT c (c.ms.getD t aK).sk).ac (bT c (c.ms.getD t aK).sk).br=gL c (fR c) (cd c t (k-1)).rt (c.ms.getD t aK).sk:=(vn h4 BG _).symm;rw[hrun]at F
 have Yi:=vo (T6 hc h4) (r:=(cd c t (k-1)).rt) (s:=(c.ms.getD t aK).sk) ⟨BG.1,by unfold fR;rw[abr];exact BG.2⟩ hb.2;have d0:iv c (fR c) (c.ms.getD t aK) k=if((cW c (cd c t k).rt).st.getD 0 bm).sec≠((cW c (cd c t (k-1)).rt).st.getD (((cW c (cd c t (k-1)).rt).st.length:Int)-(cW c (cd c t (k-1)).rt).ov-1).toNat bm).sec then 11 else if(cd c t k).gI<(cd c t (k-1)).gI+gL c (fR c) (cd c t (k-1)).rt (c.ms.getD t aK).sk+(cd c t k).dw then 14 else 0:=by
  rw[iv,r1',aa7 (by decide),aa7 (by simpa using Vj),aa7 hk0];have e1:=WL hr (j:=0) (by omega);have e2:=WL BG (j:=(((cW c (cd c t (k-1)).rt).st.length:Int)-(cW c (cd c t (k-1)).rt).ov-1).toNat) (by omega);have e3:jc (fR c) (cd c t (k-1)).rt=(((cW c (cd c t (k-1)).rt).st.length:Int)-(cW c (cd c t (k-1)).rt).ov-1).toNat:=by unfold jc;rw[Wz BG]
  unfold cd at e1 e2 e3⊢;rw[e1,e3,e2]
 generalize gL c (fR c) (cd c t (k-1)).rt (c.ms.getD t aK).sk=rn at*;have e4:((k:Int)-1).toNat=k-1:=by omega
 have aa1:60<=((c.ms.getD (t:Int).toNat aK).du.getD ((k:Int)-1).toNat bd).gI/\((c.ms.getD (t:Int).toNat aK).du.getD ((k:Int)-1).toNat bd).gI<=2097152:=by rw[e4];exact⟨hb1.2.2.1,hb1.2.2.2.1⟩
 have hdB:((c.ms.getD (t:Int).toNat aK).du.getD ((k:Int)-1).toNat bd).gI=(cd c t (k-1)).gI:=by rw[e4];rfl
 rw[d0];unfold dB at R1 R2 F⊢;refine PQ adF ?_;repeat'(first|with_reducible(first|exact BQ|exact VQ|refine aa ?_ ?_|exact⟨⟩|refine DQ ?_|assumption)|((with_reducible apply aA);first|refine an (hF) rfl ?_|refine an (R1) rfl ?_|refine an (R2) rfl ?_|refine an (S1) rfl ?_|refine an (S2) rfl ?_|refine an (F) rfl ?_)|with_reducible(refine ao ?_)|((with_reducible apply ah);refine ag rfl ?_ ?_;all_goals(intro hbq;(try simp only[bq]at hbq);(try(exfalso;omega))))|refine RQ ?_|(intro(aX:(_:Bool)=_);(try simp only[bq]at aX))|((with_reducible apply cF);simp only[bq])|(simp only[aX,bq];done)|omega)
 all_goals first|omega|skip
 ·rw[aa8 (fun e=>hbq e.symm)];rfl
 next h1=>
  rw[aa7 (fun e=>e h1.symm),aa8 (by rw[← hdB];exact hbq)];rfl
 next h1=>
  rw[aa7 (fun e=>e h1.symm),aa7 (by rw[← hdB];exact hbq)];rfl
def JK (c:dT) (hc:dp c):cC abg 34 [dB c] [] (vI (iq c)) []:=by
 have hL:=pK c.L hc.lay;have G1:=hc.sk;have ZD:=hc.rt;have QE:=hc.ms;unfold cc at hL;by_cases w1:bH c.L=0
 rotate_right
 ·have he:iq c=bH c.L:=aa8 w1
  rw[he];refine PQ afi ?_;repeat'(first|with_reducible(first|refine aa ?_ ?_|exact⟨⟩|refine DQ ?_|refine ao ?_)|((with_reducible apply aA);refine an (hL) rfl ?_)|((with_reducible apply ah);refine ag rfl ?_ ?_;all_goals(intro hbq;(try simp only[bq,w1]at hbq);(try(exfalso;omega))))|refine RQ ?_|fail)
  all_goals rfl
 rw[w1]at hL
 refine PQ afi ?_;repeat'(first|with_reducible(first|refine aa ?_ ?_|exact⟨⟩|(apply q_L;intro hbq))|((with_reducible apply aA);refine an (hL) rfl ?_)|(intro(aX:(_:Bool)=_);(try simp only[bq]at aX))|(simp only[aX,bq];done)|refine AZ ?_|fail)
 ·have he:iq c=7:=by unfold iq;rw[aa7 (by simpa using w1),aa8 (by omega)]
  rw[he];rfl
 have w2: ¬ (8<c.sk.length\/48<c.rt.length\/10<c.ms.length):=by omega
 refine aI (fun i:Nat=>SS [sC 1 (pB 0),sC 37 (RN c.sk),sI 38 c.sk.length,sI 39 i] [some (.cells (lx c))]) (fun i=>i<=c.sk.length/\ ∀ j,j<i->zt (c.sk.getD j iA)=true) (fun i=>c.sk.length-i) 0 ?_ ⟨by omega,fun j hj=>absurd hj (by omega)⟩ ?_
 ·
  refine WZ ?_;repeat' with_reducible(first|refine aa ?_ ?_|exact⟨⟩|fail)
 rintro i ⟨hi,dQ⟩;have hC:=qD (c.sk.getD (i:Int).toNat iA).nm (c.sk.getD (i:Int).toNat iA).len (c.sk.getD (i:Int).toNat iA).sp (c.sk.getD (i:Int).toNat iA).ac (c.sk.getD (i:Int).toNat iA).br;by_cases hil:i<c.sk.length
 ·rcases acZ (zt (c.sk.getD (i:Int).toNat iA))with r1|r1
  ·change cC abg _ _ [] (vB (zt (c.sk.getD (i:Int).toNat iA))) []at hC
   repeat'(first|with_reducible(first|refine aa ?_ ?_|exact⟨⟩|refine DQ ?_|assumption|refine ao ?_|refine av ?_|exact VQ)|((with_reducible apply aA);refine an (hC) rfl ?_)|((with_reducible apply ah);refine ag rfl ?_ ?_;all_goals(intro hbq;(try simp only[bq,r1]at hbq);(try(exfalso;omega))))|refine RQ ?_|omega)
   refine LY (i+1) (⟨by omega,bM dQ r1⟩) ?_;repeat' with_reducible(first|refine aa ?_ ?_|exact⟨⟩|fail)
  ·have he:iq c=4:=by unfold iq;rw[aa7 (by simpa using w1),aa7 w2,aa8 (Ll hil r1)]
   rw[he];change cC abg _ _ [] (vB (zt (c.sk.getD (i:Int).toNat iA))) []at hC;repeat'(first|with_reducible(first|refine aa ?_ ?_|exact⟨⟩|refine DQ ?_|assumption|refine ao ?_|refine av ?_|exact VQ)|((with_reducible apply aA);refine an (hC) rfl ?_)|((with_reducible apply ah);refine ag rfl ?_ ?_;all_goals(intro hbq;(try simp only[bq,r1]at hbq);(try(exfalso;omega))))|refine RQ ?_|omega)
   all_goals rfl
 have w3:c.sk.all zt=true:=Gc fun j hj=>dQ j (by omega);clear hC dQ;repeat'(first|with_reducible(first|refine aa ?_ ?_|exact⟨⟩|(apply q_L;intro hbq))|refine AZ ?_|fail)
 refine aI (fun i:Nat=>SS [sC 1 (pB 0),sC 48 (RM c.rt),sI 49 c.rt.length,sI 50 i] [some (.cells (lx c))]) (fun i=>i<=c.rt.length/\ ∀ j,j<i->nQ c j=0) (fun i=>c.rt.length-i) 0 ?_ ⟨by omega,fun j hj=>absurd hj (by omega)⟩ ?_
 ·
  refine WZ ?_;repeat' with_reducible(first|refine aa ?_ ?_|exact⟨⟩|fail)
 rintro i ⟨hi,dQ⟩;by_cases hil:i<c.rt.length
 ·have hb:=hc.gK _ (ju (d:=fc) hil)
  have hR:=C5 c.L hc.lay (c.rt.getD (i:Int).toNat fc).st (c.rt.getD (i:Int).toNat fc).ov hb.1 hb.2;unfold cc at hR;change cC abg _ _ [] (vI (nQ c i)) []at hR;by_cases r1:nQ c i=0
  ·
   repeat'(first|with_reducible(first|refine aa ?_ ?_|exact⟨⟩|refine DQ ?_|assumption|refine ao ?_|refine av ?_|exact VQ)|((with_reducible apply aA);refine an (hR) rfl ?_)|((with_reducible apply ah);refine ag rfl ?_ ?_;all_goals(intro hbq;(try simp only[bq,r1]at hbq);(try(exfalso;omega))))|refine RQ ?_|omega)
   refine LY (i+1) (⟨by omega,bM dQ r1⟩) ?_;repeat' with_reducible(first|refine aa ?_ ?_|exact⟨⟩|fail)
  ·have he:iq c=nQ c i:=by unfold iq;rw[aa7 (by simpa using w1),aa7 w2,aa7 (by rw[w3];decide),mi hil r1 dQ,aa8 r1]
   rw[he];repeat'(first|with_reducible(first|refine aa ?_ ?_|exact⟨⟩|refine DQ ?_|assumption|refine ao ?_|refine av ?_|exact VQ)|((with_reducible apply aA);refine an (hR) rfl ?_)|((with_reducible apply ah);refine ag rfl ?_ ?_;all_goals(intro hbq;(try simp only[bq,r1]at hbq);(try(exfalso;omega))))|refine RQ ?_|omega)
   all_goals rfl
 have w4: ∀ j,j<c.rt.length->nQ c j=0:=fun j hj=>dQ j (by omega);have hcs:=T6 hc w4;have hcl:(fR c).length=c.rt.length:=by unfold fR;simp
 clear dQ;repeat'(first|with_reducible(first|refine aa ?_ ?_|exact⟨⟩|(apply q_L;intro hbq))|refine AZ ?_|fail)
 refine aI (fun j:Nat=>SS [sC 1 (pB 0),sC 63 (vg c.ms),sI 64 c.ms.length,sI 65 j] [some (.cells (lx c))]) (fun j=>j<=c.ms.length/\ ∀ i,i<j->je c (fR c) (c.ms.getD i aK)=0) (fun j=>c.ms.length-j) 0 ?_ ⟨by omega,fun j hj=>absurd hj (by omega)⟩ ?_
 ·
  refine WZ ?_;repeat' with_reducible(first|refine aa ?_ ?_|exact⟨⟩|fail)
 rintro j ⟨hj,dQ⟩;have cE:iq c=ku (fun j=>je c (fR c) (c.ms.getD j aK)) c.ms.length:=by
  unfold iq;rw[aa7 (by simpa using w1),aa7 w2,aa7 (by rw[w3];decide),aa7 (by rw[mj w4];simp)]
 by_cases hjl:j<c.ms.length
 ·have hb:=hc.mss _ (ju (d:=aK) hjl)
  have heN: ∀ e,je c (fR c) (c.ms.getD j aK)=e->e≠0->iq c=e:=fun e h1 h2=>by
   rw[cE,mi (f:=fun j=>je c (fR c) (c.ms.getD j aK)) hjl (by rw[h1];exact h2) dQ,h1]
  have hb2:(c.ms.getD (j:Int).toNat aK).du.length<=9223372036854775807:=hb;repeat'(first|with_reducible(first|refine aa ?_ ?_|exact⟨⟩|(apply q_L;intro hbq))|(intro(aX:(_:Bool)=_);(try simp only[bq]at aX))|refine AZ ?_|fail)
  ·rw[heN 4 (by unfold je;exact aa8 hbq) (by decide)];rfl
  next q1=>
   rw[heN 1 (by unfold je;rw[aa7 (by have:=q1;simp only[abh]at this;omega),aa8 (by have:=hbq;simp only[abh]at this;omega)]) (by decide)];rfl
  next q1 q2=>
   rw[heN 7 (by unfold je;rw[aa7 (by have:=q1;simp only[abh]at this;omega),aa7 (by have:=q2;simp only[abh]at this;omega),aa8 (by have:=hbq;simp only[abh]at this;omega)]) (by decide)];rfl
  have q3:=hbq;rename_i q1 q2;simp only[abh]at q1 q2 q3;have m1: ¬ ((c.ms.getD j aK).sk<0\/(c.sk.length:Int)<=(c.ms.getD j aK).sk):=by omega
  have m2: ¬ (c.ms.getD j aK).du.length=0:=by omega
  have m3: ¬ 12<(c.ms.getD j aK).du.length:=by omega
  refine aI (fun k:Nat=>SS [sC 1 (pB 0),sI 9 j,sC 10 (pB 1),sI 11 (1+qd (fR c) (c.ms.getD j aK) k),sC 63 (vg c.ms),sI 64 c.ms.length,sI 65 j,sC 90 (Ie (c.ms.getD j aK).du),sI 91 (c.ms.getD j aK).du.length,sI 92 k] [some (.cells (lx c)),some (.cells (K8 (c.ms.getD j aK)))]) (fun k=>k<=(c.ms.getD j aK).du.length/\ ∀ i,i<k->iv c (fR c) (c.ms.getD j aK) i=0) (fun k=>(c.ms.getD j aK).du.length-k) 0 ?_ ⟨by omega,fun j hj=>absurd hj (by omega)⟩ ?_
  ·
   refine WZ ?_;repeat' with_reducible(first|refine aa ?_ ?_|exact⟨⟩|fail)
   all_goals rfl
  rintro k ⟨hk,hnk⟩;have iy:=uI hcs (m:=c.ms.getD j aK) (k:=k) fun i hi=>by
   have:=kx (ko (hnk i hi)).1;omega
  by_cases nW:k<(c.ms.getD j aK).du.length
  ·have hD:=Ec c hc w4 j k hjl nW (by omega) (by
    by_cases e:k=0
    ·exact .inl e
    ·exact .inr (hnk (k-1) (by omega)))
   by_cases r1:iv c (fR c) (c.ms.getD j aK) k=0
   ·have hI:=kx (ko r1).1
    have hr:0<=(cd c j k).rt/\(cd c j k).rt<c.rt.length:=⟨hI.1,hI.2.1⟩;have hk1:=dq (lA w4 hr);have kl:=hk1.len;have k1:=hk1.ov;have k2:=hk1.two;have k3:=hk1.rS;simp only at kl k1 k2 k3;have hT:=rP c j k hjl nW hr (by omega) (by omega);have Zu:qd (fR c) (c.ms.getD j aK) (k+1)=qd (fR c) (c.ms.getD j aK) k+((cW c (cd c j k).rt).st.length-(cW c (cd c j k).rt).ov-1):=by rw[← Wz hr];rfl
    rw[r1]at hD
    unfold dB at hD hT;repeat'(first|with_reducible(first|refine aa ?_ ?_|exact⟨⟩|(apply q_L;intro hbq))|((with_reducible apply aA);first|refine an (hD) rfl ?_|refine an (hT) rfl ?_)|refine AZ ?_|fail)
    all_goals first|omega|skip
    refine LY (k+1) (⟨by omega,bM hnk r1⟩) ?_;repeat' with_reducible(first|refine aa ?_ ?_|exact⟨⟩|fail)
    all_goals first|omega|(rw[Zu];omega)|skip
   ·have he:iq c=iv c (fR c) (c.ms.getD j aK) k:=heN _ (uY m1 m2 m3 nW r1 hnk) r1
    rw[he];unfold dB at hD;repeat'(first|with_reducible(first|refine aa ?_ ?_|exact⟨⟩|refine DQ ?_|refine ao ?_|refine av ?_)|((with_reducible apply aA);refine an (hD) rfl ?_)|((with_reducible apply ah);refine ag rfl ?_ ?_;all_goals(intro hbq;(try simp only[bq,r1]at hbq);(try(exfalso;omega))))|refine RQ ?_|fail)
    all_goals first|omega|rfl|skip
  ·have xW:k=(c.ms.getD j aK).du.length:=by omega
   have hm:=Hu m1 m2 m3 fun i hi=>hnk i (by omega);rw[← xW]at hm
   repeat'(first|with_reducible(first|refine aa ?_ ?_|exact⟨⟩|(apply q_L;intro hbq))|refine AZ ?_|fail)
   ·rw[heN 7 (by rw[hm,aa8 (by omega)]) (by decide)];rfl
   refine LY (j+1) (⟨by omega,bM dQ (by rw[hm,aa7 (by omega)])⟩) ?_;repeat' with_reducible(first|refine aa ?_ ?_|exact⟨⟩|fail)
   all_goals skip
 rw[cE,mj (f:=fun j=>je c (fR c) (c.ms.getD j aK)) fun i hi=>dQ i (by omega)];repeat'(first|with_reducible(first|refine aa ?_ ?_|exact⟨⟩|(apply q_L;intro hbq))|refine AZ ?_|fail)
 all_goals rfl
def x7 (c:dT) (d:iP) (r:Rec):iP:=
 if r.kd=8/\r.sp=0/\d.gone=false then{ d with fd:=r.at_,gone:=true }else
 if r.kd=2/\r.sp=(cW c d.rt).st.length-(cW c d.rt).ov-1/\d.jW=false then{ d with fa:=r.at_,jW:=true }else d
def x8 (tr:List (List iP)) (at_:Int) (r:Rec):Prop:=at_<r.at_\/r.tr<0\/(tr.length:Int)<=r.tr\/r.du<0\/((tr.getD r.tr.toNat []).length:Int)<=r.du
instance (tr:List (List iP)) (at_:Int) (r:Rec):Decidable (x8 tr at_ r):=by unfold x8;infer_instance
def Ax (c:dT) (at_:Int) (tr:List (List iP)) (r:Rec):List (List iP):=
 if x8 tr at_ r then tr else tr.set r.tr.toNat ((tr.getD r.tr.toNat []).set r.du.toNat (x7 c ((tr.getD r.tr.toNat []).getD r.du.toNat cV) r))
def j6 (c:dT) (at_:Int) (tr:List (List iP)) (x:List Rec) (n:Nat):List (List iP):=(x.take n).foldl (Ax c at_) tr
def wx (c:dT) (at_:Int) (tr:List (List iP)) {x:List Rec} (h:n<x.length):j6 c at_ tr x (n+1)=Ax c at_ (j6 c at_ tr x n) (x.getD n gq):=by
 unfold j6;rw[abO h,adx,GD,GE h];rfl
structure FK (c:dT) (tr:List (List iP)):Prop where
 rt: ∀ i k,i<tr.length->k<(tr.getD i []).length->0<=((tr.getD i []).getD k cV).rt/\((tr.getD i []).getD k cV).rt<c.rt.length
def U5 (c:dT) (d:iP) (r:Rec):(x7 c d r).rt=d.rt:=by unfold x7;split<;>(try split)<;>rfl
def ef {l:List α} {i:Nat} {x d:α} (h:i<l.length):(l.set i x).getD j d=if j=i then x else l.getD j d:=by
 simp only[GD];by_cases e:j=i
 ·subst e;rw[aa8 rfl,List.getElem?_set_self h];rfl
 ·rw[aa7 e,List.getElem?_set_ne (fun k=>e k.symm)]
def Ay (c:dT) (at_:Int) (tr:List (List iP)) (r:Rec):(Ax c at_ tr r).length=tr.length/\ ∀ i,((Ax c at_ tr r).getD i []).length=(tr.getD i []).length:=by
 unfold Ax;by_cases h:x8 tr at_ r
 ·rw[aa8 h];exact⟨rfl,fun i=>rfl⟩
 ·rw[aa7 h]
  unfold x8 at h;have hlt:r.tr.toNat<tr.length:=by omega
  refine⟨by simp,fun i=> ?_⟩;rw[ef hlt];by_cases e:i=r.tr.toNat
  ·rw[aa8 e,abj,e]
  ·rw[aa7 e]
def U4 {c:dT} (h:FK c tr) (at_:Int) (r:Rec):FK c (Ax c at_ tr r):=by
 have⟨e1,e2⟩:=Ay c at_ tr r;refine⟨fun i k hi hk=> ?_⟩;rw[e1]at hi
 rw[e2]at hk
 have h0:=h.rt i k hi hk;unfold Ax;by_cases hs:x8 tr at_ r
 ·rw[aa8 hs];exact h0
 ·rw[aa7 hs]
  unfold x8 at hs;have hlt:r.tr.toNat<tr.length:=by omega
  have Tm:r.du.toNat<(tr.getD r.tr.toNat []).length:=by omega
  rw[ef hlt];by_cases e:i=r.tr.toNat
  ·rw[aa8 e]
   rw[ef Tm];by_cases e2:k=r.du.toNat
   ·rw[aa8 e2,U5]
    rw[e,e2]at h0
    exact h0
   ·rw[aa7 e2]
    rw[e]at h0
    exact h0
  ·rw[aa7 e];exact h0
def ES {c:dT} (h:FK c tr) (at_:Int) (x:List Rec) (n:Nat):FK c (j6 c at_ tr x n)/\(j6 c at_ tr x n).length=tr.length/\ ∀ i,((j6 c at_ tr x n).getD i []).length=(tr.getD i []).length:=by
 induction n with
 |zero=>exact⟨h,rfl,fun i=>rfl⟩
 |succ n ih=>
  by_cases hn:n<x.length
  ·rw[wx c at_ tr hn]
   have⟨e1,e2⟩:=Ay c at_ (j6 c at_ tr x n) (x.getD n gq);exact⟨U4 ih.1 at_ _,e1.trans ih.2.1,fun i=>(e2 i).trans (ih.2.2 i)⟩
  ·have:j6 c at_ tr x (n+1)=j6 c at_ tr x n:=by
    unfold j6;rw[aca (by omega),aca (by omega)]
   rw[this];exact ih
def jV {l:List α} {i:Nat} {d:α} (h:i<l.length):l.set i (l.getD i d)=l:=by
 rw[GD,GE h];exact List.set_getElem_self h
def Ks (c:dT) (hc:dp c) (h4: ∀ i,i<c.rt.length->nQ c i=0) (tr:List (List iP)) (NO:FK c tr) (hlen:tr.length<=9223372036854775807) (hrow: ∀ i,(tr.getD i []).length<=9223372036854775807) (x:List Rec) (hx:x.length<=9223372036854775807) (at_:Int):
  cC abg 64 [dB c,.c (.c (.arr 0 0 tr.length tr.length)),.c (lU x),vI at_] [Nj tr] (.dt []) [Nj (j6 c at_ tr x x.length)]:=by
 unfold dB;refine FQ Tryz.func64 ?_;refine AZ ?_;and_intros
 refine aI (fun i:Nat=>SS [sC 1 (.c (.arr 0 0 tr.length tr.length)),sI 3 at_,sC 4 (pB 1),sC 13 (lU x),sI 14 x.length,sI 15 i] [Nj (j6 c at_ tr x i),some (.cells (lx c))]) (fun i=>i<=x.length) (fun i=>x.length-i) 0 ?_ (by omega) ?_
 ·
  refine WZ ?_
  all_goals rfl
 intro i hi;by_cases hil:i<x.length
 ·have⟨o1,o2,o3⟩:=ES NO at_ x i
  have iB:=wx c at_ tr hil;have hr:=hrow (x.getD i gq).tr.toNat;rw[← o3]at hr
  rw[← o2]at hlen⊢
  generalize j6 c at_ tr x i=ti at*;by_cases hs:x8 ti at_ (x.getD (i:Int).toNat gq)
  ·have CD:=hs
   unfold x8 at CD;repeat'(first|with_reducible(first|refine aa ?_ ?_|exact⟨⟩|(apply q_L;intro hbq))|(intro(aX:(_:Bool)=_);(try simp only[bq]at aX))|(simp only[aX,bq];done)|refine AZ ?_|fail)
   refine LZ (i+1) ?_
   rw[iB];unfold Ax;exact(aa8 hs).symm
  ·have CD:=hs
   unfold x8 at CD;have hlt:(x.getD (i:Int).toNat gq).tr.toNat<ti.length:=by omega
   have Tm:(x.getD (i:Int).toNat gq).du.toNat<(ti.getD (x.getD (i:Int).toNat gq).tr.toNat []).length:=by omega
   have ZD:=o1.rt _ _ hlt Tm;have hk1:=dq (lA h4 ZD);have kl:=hk1.len;have k1:=hk1.ov;have k2:=hk1.two;have k3:=hk1.rS;simp only at kl k1 k2 k3;have hne:ti.getD (x.getD (i:Int).toNat gq).tr.toNat []≠[]:=fun e=>by rw[e]at Tm;exact absurd Tm (ac8 _)
   have X9:j6 c at_ tr x (i+1)=ti.set (x.getD (i:Int).toNat gq).tr.toNat ((ti.getD (x.getD (i:Int).toNat gq).tr.toNat []).set (x.getD (i:Int).toNat gq).du.toNat (x7 c ((ti.getD (x.getD (i:Int).toNat gq).tr.toNat []).getD (x.getD (i:Int).toNat gq).du.toNat cV) (x.getD (i:Int).toNat gq))):=by
    rw[iB];unfold Ax;exact aa7 hs
   repeat'(first|with_reducible(first|refine aa ?_ ?_|exact⟨⟩|refine DQ ?_|refine ao ?_|refine av ?_|refine XC ?_ ?_)|((with_reducible apply b8 (n:=3)))|refine RQ ?_|((with_reducible apply q_L);intro hbq)|fail)
   apply Stop.mk;refine aT (aY ?_);refine db rfl ?_ (cN ?_)
   ·repeat'(first|exact⟨⟩|apply acP|omega|exact fun _=>⟨rfl,rfl⟩|fail)
   refine KM _ (Lj (z:=10) (F:=nf) (V:=nU) (M:=sw) (d:=cV) (ls:=ti) (n:=3) 0 (x.getD (i:Int).toNat gq).tr rfl (by omega) (by omega) hne (fun _=>rfl) rfl rfl) ?_;rintro⟨cap,hcap⟩;generalize hrw:ti.getD (x.getD (i:Int).toNat gq).tr.toNat []=BU at*;have kk:(c.rt.getD (BU.getD (x.getD (i:Int).toNat gq).du.toNat cV).rt.toNat fc).st.length<=24/\0<=(c.rt.getD (BU.getD (x.getD (i:Int).toNat gq).du.toNat cV).rt.toNat fc).ov/\(c.rt.getD (BU.getD (x.getD (i:Int).toNat gq).du.toNat cV).rt.toNat fc).ov<=2/\0<=(BU.getD (x.getD (i:Int).toNat gq).du.toNat cV).rt/\(BU.getD (x.getD (i:Int).toNat gq).du.toNat cV).rt<c.rt.length:=⟨kl,k3,k1,ZD.1,ZD.2⟩;repeat'(first|with_reducible(first|refine aa ?_ ?_|exact⟨⟩|(apply q_L;intro hbq))|(intro(aX:(_:Bool)=_);(try simp only[bq]at aX))|(simp only[aX,bq];done)|refine AZ ?_|fail)
   all_goals first|omega|(simp only[abj];omega)|rfl|skip
   ·have Ya:x7 c (BU.getD (x.getD (i:Int).toNat gq).du.toNat cV) (x.getD (i:Int).toNat gq)={ (BU.getD (x.getD (i:Int).toNat gq).du.toNat cV)with fd:=(x.getD (i:Int).toNat gq).at_,gone:=true }:=by
     unfold x7;rw[aa8 (by simpa[and_assoc]using hbq)]
    refine ax (i+1) (uh (z:=10) (F:=nf) (V:=nU) (M:=sw) (d:=cV) (ls:=ti) 3 0 (by decide) rfl rfl (by omega) (by omega) (by simp only[abj]) (by simp only[abj];exact hcap) (by simp only[abj]) (fun _=>rfl) rfl rfl ?_) (by omega) (by omega);simp only[ab2,ab5];refine WZ ?_
    rw[X9,Ya];simp only[ef Tm,if_true,abA]
   next hb1=>
    have Ya:x7 c (BU.getD (x.getD (i:Int).toNat gq).du.toNat cV) (x.getD (i:Int).toNat gq)={ (BU.getD (x.getD (i:Int).toNat gq).du.toNat cV)with fa:=(x.getD (i:Int).toNat gq).at_,jW:=true }:=by
     unfold x7;rw[aa7 (by rintro⟨e1,e2,e3⟩;simp_all),aa8 (by simpa[and_assoc,cW]using hbq)]
    refine ax (i+1) (uh (z:=10) (F:=nf) (V:=nU) (M:=sw) (d:=cV) (ls:=ti) 3 0 (by decide) rfl rfl (by omega) (by omega) (by simp only[abj]) (by simp only[abj];exact hcap) (by simp only[abj]) (fun _=>rfl) rfl rfl ?_) (by omega) (by omega);simp only[ab2,ab5];refine WZ ?_
    rw[X9,Ya];simp only[ef Tm,if_true,abA]
   next hb1=>
    have Ya:x7 c (BU.getD (x.getD (i:Int).toNat gq).du.toNat cV) (x.getD (i:Int).toNat gq)=(BU.getD (x.getD (i:Int).toNat gq).du.toNat cV):=by
     unfold x7;rw[aa7 (by rintro⟨e1,e2,e3⟩;simp_all),aa7 (by rintro⟨e1,e2,e3⟩;simp_all [cW])]
    refine ax (i+1) (uh (z:=10) (F:=nf) (V:=nU) (M:=sw) (d:=cV) (ls:=ti) 3 0 (by decide) rfl rfl (by omega) (by omega) (by simp only[abj]) (by simp only[abj];exact hcap) (by simp only[abj]) (fun _=>rfl) rfl rfl ?_) (by omega) (by omega);simp only[ab2,ab5];refine WZ ?_
    rw[X9,Ya];congr 1;exact(jV Tm).symm
 ·have hie:i=x.length:=by omega
  subst hie;refine AZ ?_;repeat' first|apply aa|intro hbq
  ·rfl
  repeat'(first|with_reducible(first|refine KQ ?_|refine aa ?_ ?_|exact⟨⟩)|rfl)
structure Tr (c:dT):Prop where
 KL: ∀ i,i<c.rt.length->nQ c i=0
 n:c.ms.length<=10
 sk: ∀ t,t<c.ms.length->0<=(c.ms.getD t aK).sk/\(c.ms.getD t aK).sk<c.sk.length
 du: ∀ t,t<c.ms.length->1<=(c.ms.getD t aK).du.length/\(c.ms.getD t aK).du.length<=12
 d0: ∀ t,t<c.ms.length-> ∀ k,k<(c.ms.getD t aK).du.length->iv c (fR c) (c.ms.getD t aK) k=0
def Gx {c:dT} (h:iq c=0):Tr c:=by
 unfold iq at h;by_cases h1:bH c.L=0
 ·rw[aa7 (by simpa using h1)]at h
  split at h
  ·cases h
  next h2=>
   split at h
   ·cases h
   ·split at h
    ·rename_i h4;exact absurd h h4
    next h4=>
     have h4:ku (nQ c) c.rt.length=0:=acR.1 h4;have hm:=zJ h;have key: ∀ t,t<c.ms.length-> ¬ ((c.ms.getD t aK).sk<0\/(c.sk.length:Int)<=(c.ms.getD t aK).sk)/\ ¬ (c.ms.getD t aK).du.length=0/\ ¬ 12<(c.ms.getD t aK).du.length/\ku (iv c (fR c) (c.ms.getD t aK)) (c.ms.getD t aK).du.length=0:=fun t ht=>by
      have this:je c (fR c) (c.ms.getD t aK)=0:=hm t ht;unfold je at this;split at this
      ·cases this
      next a1=>
       split at this
       ·cases this
       next a2=>
        split at this
        ·cases this
        next a3=>
         split at this
         ·rename_i a4;exact absurd this a4
         next a4=>
          exact⟨a1,a2,a3,acR.1 a4⟩
     exact⟨zJ h4,by omega,fun t ht=>by have:=(key t ht).1;omega,fun t ht=>by have:=key t ht;omega,fun t ht=>zJ (key t ht).2.2.2⟩
 ·rw[aa8 h1]at h;exact absurd h h1
def lE (r:jB):Nat:=((r.st.length:Int)-r.ov-1).toNat
def ux (c:dT) (t k:Nat):iP:=⟨(cd c t k).rt,(cd c t k).gI,(cd c t k).dw,((cW c (cd c t k).rt).st.getD 0 bm).sec,((cW c (cd c t k).rt).st.getD (lE (cW c (cd c t k).rt)) bm).sec,gL c (fR c) (cd c t k).rt (c.ms.getD t aK).sk,0,0,false,false⟩
def nY (c:dT) (t k:Nat):List (List iP):=(abi c.ms.length).map fun i=>if i<t then(abi (c.ms.getD i aK).du.length).map (ux c i)else if i=t then(abi k).map (ux c t)else []
def rV (c:dT) (t k:Nat):(nY c t k).length=c.ms.length:=by unfold nY;simp
def K7 {c:dT} {t k:Nat} (h:t<c.ms.length):(nY c t k).getD t []=(abi k).map (ux c t):=by
 unfold nY;rw[bW h,aa7 (by omega),aa8 rfl]
def SY {c:dT} {t:Nat} (h:t<c.ms.length):nY c t (c.ms.getD t aK).du.length=nY c (t+1) 0:=by
 unfold nY;refine aeb fun i hi=> ?_;by_cases h1:i<t
 ·rw[aa8 h1,aa8 (by omega)]
 ·by_cases h2:i=t
  ·subst h2
   rw[aa7 (by omega),aa8 rfl,aa8 (by omega)]
  ·rw[aa7 h1,aa7 h2,aa7 (by omega)]
   split<;>rfl
def SZ (c:dT):nY c 0 0=adK c.ms.length []:=by
 unfold nY;apply abw
 ·simp
 ·intro i h1 h2
  simp only[abV,acz,ad2,ac8,if_false];split<;>rfl
def Fw (c:dT) (t k i:Nat) (h:i<(nY c t k).length):(nY c t k)[i]=if i<t then(abi (c.ms.getD i aK).du.length).map (ux c i)else if i=t then(abi k).map (ux c t)else []:=by
 simp only[nY,abV,acz]
def IV {c:dT} {t k:Nat} (h:t<c.ms.length):(nY c t k).set t ((abi k).map (ux c t)++[ux c t k])=nY c t (k+1):=by
 apply abw
 ·rw[abj,rV,rV]
 ·intro i h1 h2
  rw[ac0,Fw];by_cases e:t=i
  ·subst e
   rw[aa8 rfl,Fw,aa7 (by omega),aa8 rfl,acJ,acD];rfl
  ·rw[aa7 e,Fw]
   by_cases h3:i<t
   ·rw[aa8 h3,aa8 h3]
   ·rw[aa7 h3,aa7 h3,aa7 (fun k=>e k.symm),aa7 (fun k=>e k.symm)]
structure TA (c:dT) (es:List (List Int×Int)):Prop where
 ok:Mu 2 es
 at_: ∀ r s v,cH es [r,s]=some v->v=gL c (fR c) r s
def Vv {c:dT} {es:List (List Int×Int)} (h:TA c es) {r s:Int} (hk:cH es [r,s]=none):TA c (IY es [r,s] (gL c (fR c) r s)):=by
 refine⟨AA h.ok rfl,fun r' s' v hv=> ?_⟩;rw[jM hk]at hv
 by_cases e:[r',s']=[r,s]
 ·rw[aa8 e]at hv
  injection e with e1 e;injection e with e2 e;injection hv with hv;rw[← hv,e1,e2]
 ·rw[aa7 e]at hv
  exact h.at_ r' s' v hv
structure WY (c:dT) (at_:Int) (d:iP):Prop where
 rt:0<=d.rt/\d.rt<c.rt.length
 gI:60<=d.gI/\d.gI<=2097152
 dw:0<=d.dw/\d.dw<=7200
 run:0<d.run/\d.run<=80001
 fst:0<=d.fst/\d.fst<c.L.ay.length
 O7:0<=d.O7/\d.O7<c.L.ay.length
 fd: -9223372036854775808<=d.fd/\d.fd<=at_
 fa: -9223372036854775808<=d.fa/\d.fa<=at_
def Z6 (c:dT) (at_:Int) (tr:List (List iP)):Prop:= ∀ i k,i<tr.length->k<(tr.getD i []).length->WY c at_ ((tr.getD i []).getD k cV)
def zc {c:dT} (hc:dp c) (h:Tr c) (ha:0<=at_) {t k:Nat} (ht:t<c.ms.length) (hk:k<(c.ms.getD t aK).du.length):WY c at_ (ux c t k):=by
 have hd:=h.d0 t ht k hk;have⟨g1,g2,g3,g4,g5,g6⟩:=kx (ko hd).1;have hr:0<=(cd c t k).rt/\(cd c t k).rt<c.rt.length:=⟨g1,g2⟩;have hk1:=dq (lA h.KL hr);have kl:=hk1.len;have k1:=hk1.ov;have k2:=hk1.two;have k3:=hk1.rS;simp only at kl k1 k2 k3;have Yi:=vo (T6 hc h.KL) (r:=(cd c t k).rt) (s:=(c.ms.getD t aK).sk) ⟨hr.1,by unfold fR;rw[abr];exact hr.2⟩ (ko hd).2;have o1:=fm (fU hk1.ok (i:=0) (by simp only;omega));have o2:=fm (fU hk1.ok (i:=lE (cW c (cd c t k).rt)) (by simp only;unfold lE;omega));exact⟨hr,⟨g3,g4⟩,⟨g5,g6⟩,Yi,⟨o1.1,o1.2.1⟩,⟨o2.1,o2.2.1⟩,⟨by show(-9223372036854775808:Int)<=0;decide,ha⟩,⟨by show(-9223372036854775808:Int)<=0;decide,ha⟩⟩
def SW {c:dT} (hc:dp c) (h:Tr c) (ha:0<=at_):Z6 c at_ (nY c c.ms.length 0):=by
 intro i k hi hk;rw[rV]at hi
 have e:(nY c c.ms.length 0).getD i []=(abi (c.ms.getD i aK).du.length).map (ux c i):=by
  unfold nY;rw[bW hi,aa8 hi]
 rw[e]at hk⊢
 rw[abr,acV]at hk
 rw[bW hk];exact zc hc h ha hi hk
def YF {c:dT} {d:iP} {r:Rec} (h:WY c at_ d) (h1: -9223372036854775808<=r.at_) (h2:r.at_<=at_):WY c at_ (x7 c d r):=by
 have⟨a1,a2,a3,a4,a5,a6,a7,a8⟩:=h;unfold x7;split
 ·exact⟨a1,a2,a3,a4,a5,a6,⟨h1,h2⟩,a8⟩
 ·split
  ·exact⟨a1,a2,a3,a4,a5,a6,a7,⟨h1,h2⟩⟩
  ·exact⟨a1,a2,a3,a4,a5,a6,a7,a8⟩
def YE {c:dT} {r:Rec} (h:Z6 c at_ tr) (h1: -9223372036854775808<=r.at_):Z6 c at_ (Ax c at_ tr r):=by
 intro i k hi hk;have⟨e1,e2⟩:=Ay c at_ tr r;rw[e1]at hi
 rw[e2]at hk
 have h0:=h i k hi hk;unfold Ax;by_cases hs:x8 tr at_ r
 ·rw[aa8 hs];exact h0
 ·rw[aa7 hs]
  unfold x8 at hs;have hlt:r.tr.toNat<tr.length:=by omega
  have Tm:r.du.toNat<(tr.getD r.tr.toNat []).length:=by omega
  rw[ef hlt];by_cases e:i=r.tr.toNat
  ·rw[aa8 e,ef Tm]
   by_cases e2:k=r.du.toNat
   ·rw[aa8 e2]
    rw[e,e2]at h0
    exact YF h0 h1 (by omega)
   ·rw[aa7 e2]
    rw[e]at h0
    exact h0
  ·rw[aa7 e];exact h0
def Rh {c:dT} {x:List Rec} (h:Z6 c at_ tr) (hx: ∀ r∈x,-9223372036854775808<=r.at_) (n:Nat):Z6 c at_ (j6 c at_ tr x n):=by
 induction n with
 |zero=>exact h
 |succ n ih=>
  by_cases hn:n<x.length
  ·rw[wx c at_ tr hn]
   exact YE ih (hx _ (ju hn))
  ·have:j6 c at_ tr x (n+1)=j6 c at_ tr x n:=by
    unfold j6;rw[aca (by omega),aca (by omega)]
   rw[this];exact ih
def eR (at_:Int) (k:Nat) (pa:Int) (d:iP):iP:=
 let f:=if d.gone=true then d.fd else if 0<k then max (max d.gI (at_+1)) (pa+d.dw)else max d.gI (at_+1)
 { d with fd:=f,fa:=if d.jW=true then d.fa else max (at_+1) (f+d.run) }
def gX (at_:Int) (l:List iP):Nat->List iP
 |0=>l
 |k+1=>(gX at_ l k).set k (eR at_ k ((gX at_ l k).getD (k-1) cV).fa ((gX at_ l k).getD k cV))
def om (at_:Int) (l:List iP) (k:Nat):(gX at_ l k).length=l.length:=by
 induction k with
 |zero=>rfl
 |succ k ih=>unfold gX;rw[abj,ih]
structure Zi (c:dT) (b:Int) (d:iP):Prop where
 rt:0<=d.rt/\d.rt<c.rt.length
 gI:60<=d.gI/\d.gI<=2097152
 dw:0<=d.dw/\d.dw<=7200
 run:0<d.run/\d.run<=80001
 fst:0<=d.fst/\d.fst<c.L.ay.length
 O7:0<=d.O7/\d.O7<c.L.ay.length
 fd: -9223372036854775808<=d.fd/\d.fd<=b
 fa: -9223372036854775808<=d.fa/\d.fa<=b
def zH (at_:Int) (l:List iP) (k j:Nat) (h:k<=j) (hl:k<=l.length):(gX at_ l k).getD j cV=l.getD j cV:=by
 induction k with
 |zero=>rfl
 |succ k ih=>
  unfold gX;rw[ef (by rw[om];omega),aa7 (by omega),ih (by omega) (by omega)]
def LQ {c:dT} {l:List iP} (ha:0<=at_/\at_<=4194304) (h: ∀ k,k<l.length->WY c at_ (l.getD k cV)) (k:Nat) (hk:k<=l.length): ∀ j,j<k->Zi c (4200000+90000*(j+1)) ((gX at_ l k).getD j cV):=by
 induction k with
 |zero=>intro j hj;omega
 |succ k ih=>
  intro j hj;have ih:=ih (by omega);unfold gX;rw[ef (by rw[om];omega)];by_cases e:j=k
  ·rw[aa8 e]
   subst e;rw[zH at_ l j j (acX _) (by omega)];have⟨a1,a2,a3,a4,a5,a6,a7,a8⟩:=h j (by omega);have hp:0<j->(((gX at_ l j).getD (j-1) cV).fa<=4200000+90000*j/\ -9223372036854775808<=((gX at_ l j).getD (j-1) cV).fa):=fun yo=>by
    have:=(ih (j-1) (by omega)).fa;omega
   unfold eR;simp only;generalize ((gX at_ l j).getD (j-1) cV).fa=pa at*;generalize l.getD j cV=d at*;refine⟨a1,a2,a3,a4,a5,a6,?_,?_⟩<;>simp only<;>(repeat' split)<;>omega
  ·rw[aa7 e]
   exact ih j (by omega)
end Av
def aa9:=@if_neg
def abc:=@if_pos
namespace Av
variable {at_:Int} {tr:List (List iP)}
def aaD:El:=⟨bF.sl,[],bF.mp⟩
def XA:aaD.Ok abg:=⟨zB.eq,zB.ok,rfl,zB.mp⟩
def Ju {ops:Array Oper} {rest:List Oper} {l:SL} {H:SH} {R:Rg} {rest':List Oper} {l':SL} {H':SH} {R':Rg} {p:Prop} (h:RZ nX aaD ops rest l H R=some ⟨rest',l',H',R',p⟩) (hp:p) (hk:WR abg ops rest' (SS l' H') R'):WR abg ops rest (SS l H) R:=Fc ff XA h hp hk
def dX (c:dT) (at_:Int):Int:=if iq c≠0 then iq c else if at_<0\/4194304<at_ then 4 else 0
def jK (at_:Int) (tr:List (List iP)) (t:Nat):List (List iP):=(abi tr.length).map fun i=>if i<t then gX at_ (tr.getD i []) (tr.getD i []).length else tr.getD i []
def j8 (c:dT) (x:List Rec) (at_:Int):List (List iP):=if dX c at_=0 then jK at_ (j6 c at_ (nY c c.ms.length 0) x x.length) c.ms.length else []
def XM :jK at_ tr 0=tr:=by
 unfold jK;apply abw
 ·simp
 ·intro i h1 h2
  simp only[abV,acz,ac8,if_false];rw[GD,GE h2];rfl
def GN {t i:Nat} (h:i<(jK at_ tr t).length):(jK at_ tr t)[i]=if i<t then gX at_ (tr.getD i []) (tr.getD i []).length else tr.getD i []:=by
 simp only[jK,abV,acz]
def NG {t:Nat} (h:t<tr.length):(jK at_ tr t).set t (gX at_ (tr.getD t []) (tr.getD t []).length)=jK at_ tr (t+1):=by
 apply abw
 ·simp[jK]
 ·intro i h1 h2
  rw[GN h2,ac0];by_cases e:t=i
  ·subst e
   rw[abc rfl,abc (by omega)]
  ·rw[aa9 e,GN]
   by_cases h3:i<t
   ·rw[abc h3,abc (by omega)]
   ·rw[aa9 h3,aa9 (by omega)]
def tP (c:dT) (hc:dp c) (x:List Rec) (hx:x.length<=9223372036854775807) (i9: ∀ r∈x,-9223372036854775808<=r.at_) (at_:Int):
  cC abg 33 [dB c,.c (lU x),vI at_] [] (.dt [.c (q8 (j8 c x at_)),.c (xI (dX c at_))]) []:=by
 have hC:=Kw c hc;unfold dB at hC;by_cases w1:iq c=0
 rotate_right
 ·have he:dX c at_=iq c:=abc w1
  have ht:j8 c x at_=[]:=by unfold j8;rw[he,aa9 w1]
  rw[he,ht];unfold dB;refine PQ afj ?_;repeat'(first|with_reducible(first|refine aa ?_ ?_|exact⟨⟩|refine DQ ?_|refine ao ?_)|((with_reducible apply aA);refine an (hC) rfl ?_)|((with_reducible apply ah);refine ag rfl ?_ ?_;all_goals(intro hbq;(try simp only[bq,w1]at hbq);(try(exfalso;omega))))|refine RQ ?_|fail)
  all_goals rfl
 rw[w1]at hC
 have w:=Gx w1;unfold dB;refine PQ afj ?_;have wn:=w.n;repeat'(first|with_reducible(first|refine aa ?_ ?_|exact⟨⟩|(apply q_L;intro hbq))|((with_reducible apply aA);refine an (hC) rfl ?_)|(intro(aX:(_:Bool)=_);(try simp only[bq]at aX))|refine AZ ?_|fail)
 ·have he:dX c at_=4:=by unfold dX;rw[aa9 (by simpa using w1),abc hbq]
  have ht:j8 c x at_=[]:=by unfold j8;rw[he,aa9 (by decide)]
  rw[he,ht];rfl
 have he:dX c at_=0:=by unfold dX;rw[aa9 (by simpa using w1),aa9 (by omega)]
 have ht:j8 c x at_=jK at_ (j6 c at_ (nY c c.ms.length 0) x x.length) c.ms.length:=abc he;rw[he,ht];refine aI (fun y:Nat×List (List Int×Int)=>SS [sC 1 (lU x),sI 2 at_,sC 3 (pB 0),sC 9 (.c (.arr 1 0 c.ms.length c.ms.length)),sC 10 (.c (.mh 2)),sC 44 (vg c.ms),sI 45 c.ms.length,sI 46 y.1] [some (.cells (lx c)),Nj (nY c y.1 0),mpI y.2]) (fun y=>y.1<=c.ms.length/\TA c y.2) (fun y=>c.ms.length-y.1) (0,[]) ?_ ⟨acG _,⟨ET,fun r s v hv=>by simp[cH]at hv⟩⟩ ?_
 ·
  refine WZ ?_
  refine aO.YC (fun _=>rfl) (by rw[SZ];simp) (aO.mp rfl (aO.nil _))
 rintro⟨t,es⟩ ⟨ht1,hE⟩;simp only at ht1 hE⊢;by_cases jn:t<c.ms.length
 ·have hdu:=w.du t jn
  have G1:=w.sk t jn;have ag0:0<=(c.ms.getD (t:Int).toNat aK).sk/\(c.ms.getD (t:Int).toNat aK).sk<c.sk.length:=G1;refine AZ ?_;repeat' first|apply aa|intro hbq
  refine aI (fun y:Nat×List (List Int×Int)=>SS [sC 1 (lU x),sI 2 at_,sC 3 (pB 0),sC 9 (.c (.arr 1 0 c.ms.length c.ms.length)),sC 10 (.c (.mh 2)),sI 11 t,sC 12 (pB 3),sC 44 (vg c.ms),sI 45 c.ms.length,sI 46 t,sC 52 (Ie (c.ms.getD t aK).du),sI 53 (c.ms.getD t aK).du.length,sI 54 y.1] [some (.cells (lx c)),Nj (nY c t y.1),mpI y.2,some (.cells (K8 (c.ms.getD t aK)))]) (fun y=>y.1<=(c.ms.getD t aK).du.length/\TA c y.2) (fun y=>(c.ms.getD t aK).du.length-y.1) (0,es) ?_ ⟨acG _,hE⟩ ?_
  ·
   refine WZ ?_;and_intros
   all_goals rfl
  clear hE;rintro⟨k,es⟩ ⟨hk,hE⟩;simp only at hk hE⊢;by_cases nW:k<(c.ms.getD t aK).du.length
  ·have hd:=ko (w.d0 t jn k nW)
   have⟨g1,g2,g3,g4,g5,g6⟩:=kx hd.1;have hr:0<=(cd c t k).rt/\(cd c t k).rt<c.rt.length:=⟨g1,g2⟩;have hk1:=dq (lA w.KL hr);have kl:=hk1.len;have k1:=hk1.ov;have k2:=hk1.two;have k3:=hk1.rS;simp only at kl k1 k2 k3;have tC:((lE (cW c (cd c t k).rt):Nat):Int)=(cW c (cd c t k).rt).st.length-(cW c (cd c t k).rt).ov-1:=by unfold lE;omega
   have ED:fl c.L ⟨(cW c (cd c t k).rt).st,(cW c (cd c t k).rt).ov⟩ (bT c (c.ms.getD t aK).sk).len (bT c (c.ms.getD t aK).sk).sp (bT c (c.ms.getD t aK).sk).ac (bT c (c.ms.getD t aK).sk).br=0:=by rw[← rQ w.KL hr];exact hd.2
   have hM:=Mm c.L hc.lay (cW c (cd c t k).rt).st (cW c (cd c t k).rt).ov (by omega) (by omega) (bT c (c.ms.getD t aK).sk).nm (bT c (c.ms.getD t aK).sk).len (bT c (c.ms.getD t aK).sk).sp (bT c (c.ms.getD t aK).sk).ac (bT c (c.ms.getD t aK).sk).br 0 (lE (cW c (cd c t k).rt)) ED (by omega) (by omega);rw[mw tC,tC]at hM
   unfold BM at hM;rw[show m8 c.L ⟨(cW c (cd c t k).rt).st,(cW c (cd c t k).rt).ov⟩ (bT c (c.ms.getD t aK).sk).len (bT c (c.ms.getD t aK).sk).sp (bT c (c.ms.getD t aK).sk).ac (bT c (c.ms.getD t aK).sk).br=gL c (fR c) (cd c t k).rt (c.ms.getD t aK).sk from(vn w.KL hr _).symm]at hM
   unfold cc at hM;have gD:0<=((c.ms.getD t aK).du.getD (k:Int).toNat bd).rt/\((c.ms.getD t aK).du.getD (k:Int).toNat bd).rt<c.rt.length/\0<=(c.ms.getD t aK).sk/\(c.ms.getD t aK).sk<c.sk.length:=⟨g1,g2,G1.1,G1.2⟩;have gR:(c.rt.getD ((c.ms.getD t aK).du.getD (k:Int).toNat bd).rt.toNat fc).st.length<=24/\0<=(c.rt.getD ((c.ms.getD t aK).du.getD (k:Int).toNat bd).rt.toNat fc).ov/\(c.rt.getD ((c.ms.getD t aK).du.getD (k:Int).toNat bd).rt.toNat fc).ov<=2/\(c.rt.getD ((c.ms.getD t aK).du.getD (k:Int).toNat bd).rt.toNat fc).ov+2<=(c.rt.getD ((c.ms.getD t aK).du.getD (k:Int).toNat bd).rt.toNat fc).st.length:=⟨kl,k3,k1,k2⟩;have hK:=hE.ok;have hrow:((nY c t k).getD (t:Int).toNat []).length=k:=by
    rw[show((t:Int).toNat)=t from rfl,K7 jn];simp
   have aee:(nY c t k).length=c.ms.length:=rV c t k;repeat'(first|with_reducible(first|refine aa ?_ ?_|exact⟨⟩|refine DQ ?_|assumption|refine ao ?_|refine av ?_|refine XC ?_ ?_|exact VQ)|((with_reducible apply b8 (n:=16)))|refine RQ ?_|omega|((with_reducible apply q_L);intro hbq)|fail)
   apply Stop.mk;refine aT (aY ?_);refine Ju rfl ?_ (cN (dI ?_))
   ·repeat'(first|exact⟨⟩|apply acP|fail)
   rcases hk0:cH es [((c.ms.getD t aK).du.getD (k:Int).toNat bd).rt,(c.ms.getD t aK).sk]with _|v
   ·
    repeat'(first|with_reducible(first|exact BQ|exact VQ|refine aa ?_ ?_|exact⟨⟩|refine DQ ?_|assumption|refine ao ?_)|((with_reducible apply aA);refine an (hM) rfl ?_)|((with_reducible apply ah);refine ag rfl ?_ ?_;all_goals(intro hbq;(try simp only[bq,hk0,ada]at hbq);(try(exfalso;omega))))|refine RQ ?_|((with_reducible apply bG);rfl)|((with_reducible apply qh);exact rfl)|omega)
    all_goals first|exact⟨1,fun _=>⟨rfl,rfl⟩⟩|(with_reducible exact AA hK rfl)|rfl|skip
    refine LY (((k+1,IY es [(cd c t k).rt,(c.ms.getD t aK).sk] (gL c (fR c) (cd c t k).rt (c.ms.getD t aK).sk)):Nat×List (List Int×Int))) (⟨by simp only;omega,Vv hE hk0⟩) ?_;and_intros
    ·have NN:(cH (IY es [((c.ms.getD t aK).du.getD (k:Int).toNat bd).rt,(c.ms.getD t aK).sk] (gL c (fR c) (cd c t k).rt (c.ms.getD t aK).sk)) [((c.ms.getD t aK).du.getD (k:Int).toNat bd).rt,(c.ms.getD t aK).sk]).getD 0=gL c (fR c) (cd c t k).rt (c.ms.getD t aK).sk:=by rw[jM hk0,abc rfl];rfl
     rw[NN,show(nY c t k).getD (t:Int).toNat []=_ from K7 jn];exact(IV jn).symm
    ·rfl
   ·have hv:=hE.at_ _ _ _ hk0
    repeat'(first|with_reducible(first|exact BQ|exact VQ|refine aa ?_ ?_|exact⟨⟩|refine DQ ?_|assumption|refine ao ?_)|((with_reducible apply ah);refine ag rfl ?_ ?_;all_goals(intro hbq;(try simp only[bq,hk0,adw]at hbq);(try(exfalso;omega))))|refine RQ ?_|((with_reducible apply bG);rfl)|((with_reducible apply qh);exact rfl)|omega)
    all_goals first|exact⟨1,fun _=>⟨rfl,rfl⟩⟩|rfl|skip
    refine LY (((k+1,es):Nat×List (List Int×Int))) (⟨by simp only;omega,hE⟩) ?_;repeat' with_reducible(first|refine aa ?_ ?_|exact⟨⟩|fail)
    rw[hk0,acF,hv,show(nY c t k).getD (t:Int).toNat []=_ from K7 jn];exact(IV jn).symm
  ·have xW:k=(c.ms.getD t aK).du.length:=by omega
   subst xW;rw[SY jn];refine AZ ?_;repeat' first|apply aa|intro hbq
   refine LY (((t+1,es):Nat×List (List Int×Int))) (⟨by simp only;omega,hE⟩) ?_;repeat' with_reducible(first|refine aa ?_ ?_|exact⟨⟩|fail)
   all_goals skip
 have BH:t=c.ms.length:=by omega
 subst BH;have hB:=SW hc w (at_:=at_) (by omega);have hlen:=rV c c.ms.length 0;have QI: ∀ i,((nY c c.ms.length 0).getD i []).length<=12:=fun i=>by
  by_cases hi:i<c.ms.length
  ·have e:(nY c c.ms.length 0).getD i []=(abi (c.ms.getD i aK).du.length).map (ux c i):=by
    unfold nY;rw[bW hi,abc hi]
   rw[e,abr,acV];exact(w.du i hi).2
  ·rw[GD,ac7 (by omega)]
   exact acG _
 have hO:=Ks c hc w.KL (nY c c.ms.length 0) ⟨fun i k hi hk=>(hB i k hi hk).rt⟩ (by omega) (fun i=>acS (QI i) (by decide)) x hx at_;rw[hlen]at hO
 have hB2:=Rh hB i9 x.length;have hO2:=ES ⟨fun i k hi hk=>(hB i k hi hk).rt⟩ at_ x x.length;clear hE;have adR: ∀ i,i<c.ms.length->1<=((j6 c at_ (nY c c.ms.length 0) x x.length).getD i []).length:=fun i hi=>by
  have e:(nY c c.ms.length 0).getD i []=(abi (c.ms.getD i aK).du.length).map (ux c i):=by
   unfold nY;rw[bW hi,abc hi]
  rw[hO2.2.2 i,e,abr,acV];exact(w.du i hi).1
 have Yj: ∀ i,((j6 c at_ (nY c c.ms.length 0) x x.length).getD i []).length<=12:=fun i=>by rw[hO2.2.2 i];exact QI i
 have hlen2:(j6 c at_ (nY c c.ms.length 0) x x.length).length=c.ms.length:=hO2.2.1.trans hlen;clear QI hO2 hB;generalize j6 c at_ (nY c c.ms.length 0) x x.length=tr at*;unfold dB at hO;repeat'(first|with_reducible(first|refine aa ?_ ?_|exact⟨⟩|(apply q_L;intro hbq))|((with_reducible apply aA);refine bY [1] (hO) rfl rfl rfl rfl rfl rfl rfl rfl rfl rfl rfl rfl rfl ?_)|refine AZ ?_|fail)
 refine aI (fun t:Nat=>SS [sI 2 at_,sC 9 (.c (.arr 1 0 c.ms.length c.ms.length)),sC 134 (.c (.arr 1 0 c.ms.length c.ms.length)),sI 135 c.ms.length,sI 136 t] [some (.cells (lx c)),Nj (jK at_ tr t)]) (fun t=>t<=c.ms.length) (fun t=>c.ms.length-t) 0 ?_ (by omega) ?_
 ·
  refine WZ ?_
  exact XM.symm
 intro t ht1;have J8:(jK at_ tr t).length=c.ms.length:=by unfold jK;simp[hlen2]
 by_cases jn:t<c.ms.length
 ·have hft:(jK at_ tr t).getD (t:Int).toNat []=tr.getD t []:=by
   show(jK at_ tr t).getD t []=_;unfold jK;rw[bW (by omega),aa9 (by omega)]
  have hr1:=adR t jn;have BE:=Yj t;have hrB: ∀ k,k<(tr.getD t []).length->WY c at_ ((tr.getD t []).getD k cV):=fun k hk=>hB2 t k (by omega) hk;have abv: ∀ l,l=gX at_ (tr.getD t []) (tr.getD t []).length->(jK at_ tr t).set t l=jK at_ tr (t+1):=fun l hl=>by rw[hl];exact NG (by omega)
  have hne:(jK at_ tr t).getD (t:Int).toNat []≠[]:=by
   rw[hft];intro e;rw[e]at hr1
   exact absurd hr1 (by decide)
  repeat'(first|with_reducible refine ao ?_|((with_reducible apply b8 (n:=26)))|fail)
  apply Stop.mk;refine aT (aY ?_);refine db rfl ?_ (cN ?_)
  ·repeat'(exact⟨⟩)
  refine KM _ (Lj (z:=10) (F:=nf) (V:=nU) (M:=sw) (d:=cV) (ls:=jK at_ tr t) (n:=2) 1 (t:Int) rfl (by omega) (by omega) hne (fun _=>rfl) rfl rfl) ?_;rintro⟨cap,hcap⟩;simp only[hft]at hcap⊢;generalize tr.getD t []=r at*;simp only[ab2,ab5,aes,adI];refine AZ ?_;repeat' first|apply aa|intro hbq
  refine aI (fun k:Nat=>SS [sI 2 at_,sC 9 (.c (.arr 1 0 c.ms.length c.ms.length)),sC 23 (.c (.arr 2 0 r.length cap)),sC 134 (.c (.arr 1 0 c.ms.length c.ms.length)),sI 135 c.ms.length,sI 136 t,sI 141 r.length,sI 142 k] [some (.cells (lx c)),some (.rws 10 nf nU sw cV (jK at_ tr t) (some ((t:Int),.c (.arr 2 0 r.length cap)))),some (.gn 10 nf nU sw cV (gX at_ r k) ((cap-r.length)*10))]) (fun k=>k<=r.length) (fun k=>r.length-k) 0 ?_ (by omega) ?_
  ·
   refine WZ ?_
   exact aO.BV rfl rfl rfl (aO.gn rfl (aO.nil _))
  intro k hk;by_cases nW:k<r.length
  ·have hC:=LQ (c:=c) (at_:=at_) (l:=r) (by omega) hrB k (by omega)
   have hE:=hrB k nW;rw[← zH at_ r k k (acX _) (by omega)]at hE
   have X3:=om at_ r k;have iB:gX at_ r (k+1)=(gX at_ r k).set k (eR at_ k ((gX at_ r k).getD (k-1) cV).fa ((gX at_ r k).getD k cV)):=rfl;generalize gX at_ r k=l at*;have Bn:WY c at_ (l.getD (k:Int).toNat cV):=hE;have⟨e1,e2,e3,e4,e5,e6,e7,e8⟩:=Bn;have qe:k<l.length:=by omega
   by_cases hk0:k=0
   ·subst hk0
    refine AZ ?_;repeat' first|apply aa|intro hbq
    all_goals first|rfl|omega|(simp only[abh,abA,abj];omega)|(simp only[abh,abA,ef qe,if_true,abj];simp only[abh]at*;omega)|skip
    ·
     refine ax (0+1) ?_ (by omega) (by omega);refine WZ ?_
     refine aO.BV rfl rfl rfl (aO.gn ?_ (aO.nil _));rw[iB];clear hC hE e1 e2 e3 e4 e5 e6 e7 e8 iB;simp only[abh,abA,ef qe,if_true]at*;generalize J2:l.getD 0 cV=E at*;have⟨a1,a2,a3,a4,a5,a6,a7,a8,g,h⟩:=E;simp only at*
     first
      |(subst_vars;simp[eR];done)
      |(simp[eR, *];done)
      |(rw[← jV (d:=cV) qe];rw[J2];simp[eR, *];done)
    ·
     refine ax (0+1) ?_ (by omega) (by omega);refine WZ ?_
     refine aO.BV rfl rfl rfl (aO.gn ?_ (aO.nil _));rw[iB];clear hC hE e1 e2 e3 e4 e5 e6 e7 e8 iB;simp only[abh,abA,ef qe,if_true]at*;generalize J2:l.getD 0 cV=E at*;have⟨a1,a2,a3,a4,a5,a6,a7,a8,g,h⟩:=E;simp only at*
     first
      |(subst_vars;simp[eR];done)
      |(simp[eR, *];done)
      |(rw[← jV (d:=cV) qe];rw[J2];simp[eR, *];done)
    ·
     refine ax (0+1) ?_ (by omega) (by omega);refine WZ ?_
     refine aO.BV rfl rfl rfl (aO.gn ?_ (aO.nil _));rw[iB];clear hC hE e1 e2 e3 e4 e5 e6 e7 e8 iB;simp only[abh,abA,ef qe,if_true]at*;generalize J2:l.getD 0 cV=E at*;have⟨a1,a2,a3,a4,a5,a6,a7,a8,g,h⟩:=E;simp only at*
     first
      |(subst_vars;simp[eR];done)
      |(simp[eR, *];done)
      |(rw[← jV (d:=cV) qe];rw[J2];simp[eR, *];done)
    ·
     refine ax (0+1) ?_ (by omega) (by omega);refine WZ ?_
     refine aO.BV rfl rfl rfl (aO.gn ?_ (aO.nil _));rw[iB];clear hC hE e1 e2 e3 e4 e5 e6 e7 e8 iB;simp only[abh,abA,ef qe,if_true]at*;generalize J2:l.getD 0 cV=E at*;have⟨a1,a2,a3,a4,a5,a6,a7,a8,g,h⟩:=E;simp only at*
     first
      |(subst_vars;simp[eR];done)
      |(simp[eR, *];done)
      |(rw[← jV (d:=cV) qe];rw[J2];simp[eR, *];done)
   ·have hP:=hC (k-1) (by omega)
    have e9:((k:Int)-1).toNat=k-1:=by omega
    rw[← e9]at hP
    have p1:=hP.fa;have e10: ¬ k-1=k:=by omega
    refine AZ ?_;repeat' first|apply aa|intro hbq
    all_goals first|rfl|omega|(simp only[abh,abA,abj];omega)|(simp only[abh,abA,ef qe,if_true,abj,e9,e10,if_false]at*;omega)|skip
    ·
     refine ax (k+1) ?_ (by omega) (by omega);refine WZ ?_
     refine aO.BV rfl rfl rfl (aO.gn ?_ (aO.nil _));rw[iB];clear hC hE e1 e2 e3 e4 e5 e6 e7 e8 iB;simp only[abh,abA,ef qe,if_true,e9,e10,if_false]at*;have Zw:0<k:=by omega
     generalize (l.getD (k-1) cV).fa=pa at*;generalize J2:l.getD k cV=E at*;have⟨a1,a2,a3,a4,a5,a6,a7,a8,g,h⟩:=E;simp only at*
     first
      |(subst_vars;simp[eR];done)
      |(simp[eR, *];done)
      |(rw[← jV (d:=cV) qe];rw[J2];simp[eR, *];done)
    ·
     refine ax (k+1) ?_ (by omega) (by omega);refine WZ ?_
     refine aO.BV rfl rfl rfl (aO.gn ?_ (aO.nil _));rw[iB];clear hC hE e1 e2 e3 e4 e5 e6 e7 e8 iB;simp only[abh,abA,ef qe,if_true,e9,e10,if_false]at*;have Zw:0<k:=by omega
     generalize (l.getD (k-1) cV).fa=pa at*;generalize J2:l.getD k cV=E at*;have⟨a1,a2,a3,a4,a5,a6,a7,a8,g,h⟩:=E;simp only at*
     first
      |(subst_vars;simp[eR];done)
      |(simp[eR, *];done)
      |(rw[← jV (d:=cV) qe];rw[J2];simp[eR, *];done)
    ·
     refine ax (k+1) ?_ (by omega) (by omega);refine WZ ?_
     refine aO.BV rfl rfl rfl (aO.gn ?_ (aO.nil _));rw[iB];clear hC hE e1 e2 e3 e4 e5 e6 e7 e8 iB;simp only[abh,abA,ef qe,if_true,e9,e10,if_false]at*;have Zw:0<k:=by omega
     generalize (l.getD (k-1) cV).fa=pa at*;generalize J2:l.getD k cV=E at*;have⟨a1,a2,a3,a4,a5,a6,a7,a8,g,h⟩:=E;simp only at*
     first
      |(subst_vars;simp[eR];done)
      |(simp[eR, *];done)
      |(rw[← jV (d:=cV) qe];rw[J2];simp[eR, *];done)
    ·
     refine ax (k+1) ?_ (by omega) (by omega);refine WZ ?_
     refine aO.BV rfl rfl rfl (aO.gn ?_ (aO.nil _));rw[iB];clear hC hE e1 e2 e3 e4 e5 e6 e7 e8 iB;simp only[abh,abA,ef qe,if_true,e9,e10,if_false]at*;have Zw:0<k:=by omega
     generalize (l.getD (k-1) cV).fa=pa at*;generalize J2:l.getD k cV=E at*;have⟨a1,a2,a3,a4,a5,a6,a7,a8,g,h⟩:=E;simp only at*
     first
      |(subst_vars;simp[eR];done)
      |(simp[eR, *];done)
      |(rw[← jV (d:=cV) qe];rw[J2];simp[eR, *];done)
  ·have xW:k=r.length:=by omega
   subst xW;have X3:=om at_ r r.length;have mq:=abv _ rfl;generalize gX at_ r r.length=l at*;refine AZ ?_;repeat' first|apply aa|intro hbq
   refine ax (t+1) (uh (z:=10) (F:=nf) (V:=nU) (M:=sw) (d:=cV) (ls:=jK at_ tr t) 2 1 (by decide) rfl rfl (by omega) (by omega) (by rw[X3]) (by rw[X3];exact hcap) (by rw[X3]) (fun _=>rfl) rfl rfl ?_) (by omega) (by omega);simp only[ab2,ab5];refine WZ ?_
   exact mq
 have BH:t=c.ms.length:=by omega
 subst BH;clear hO;refine ao (aT (aY ?_));refine db rfl ?_ (cN (dI ?_))
 ·trivial
 refine ao (ag rfl ?_ ?_)
 ·intro hbq
  simp only[bq]at hbq;omega
 intro _;refine kh (jT (iC (fM rfl ?_)));refine jq _ (Pv (z:=10) (F:=nf) (V:=nU) (M:=sw) (d:=cV) (ls:=jK at_ tr c.ms.length) 1 rfl rfl rfl (dG.refl (acG _))) ?_;simp only[ab2,ab5];repeat'(first|with_reducible(first|refine aa ?_ ?_|exact⟨⟩)|(intro _;exact rfl)|refine AZ ?_|fail)
 all_goals rfl
def vd {c:dT} (h:dX c at_=0):iq c=0/\0<=at_/\at_<=4194304:=by
 unfold dX at h;split at h
 ·rename_i h1;exact absurd h h1
 next h1=>
  split at h
  ·cases h
  ·exact⟨acR.1 h1,by omega,by omega⟩
structure ac4 (c:dT) (tr:List (List iP)):Prop where
 n:tr.length=c.ms.length
 n10:tr.length<=10
 row: ∀ i,i<tr.length->(tr.getD i []).length=(c.ms.getD i aK).du.length
 RH: ∀ i,(tr.getD i []).length<=12
 du: ∀ i k,i<tr.length->k<(tr.getD i []).length->Zi c 6000000 ((tr.getD i []).getD k cV)
def Mx {c:dT} (hc:dp c) {x:List Rec} (i9: ∀ r∈x,-9223372036854775808<=r.at_) (h:dX c at_=0):ac4 c (j8 c x at_):=by
 have⟨h1,h2,h3⟩:=vd h;have w:=Gx h1;have hB:=Rh (SW hc w h2) i9 x.length;have hO:=ES (c:=c) (tr:=nY c c.ms.length 0) ⟨fun i k hi hk=>(SW hc w h2 i k hi hk).rt⟩ at_ x x.length;have e0:j8 c x at_=jK at_ (j6 c at_ (nY c c.ms.length 0) x x.length) c.ms.length:=abc h;rw[e0];have hl:(j6 c at_ (nY c c.ms.length 0) x x.length).length=c.ms.length:=hO.2.1.trans (rV ..);have hrow: ∀ i,i<c.ms.length->((j6 c at_ (nY c c.ms.length 0) x x.length).getD i []).length=(c.ms.getD i aK).du.length:=fun i hi=>by
  rw[hO.2.2 i];unfold nY;rw[bW hi,abc hi];simp
 generalize j6 c at_ (nY c c.ms.length 0) x x.length=tr at*;have hg: ∀ i,i<c.ms.length->(jK at_ tr c.ms.length).getD i []=gX at_ (tr.getD i []) (tr.getD i []).length:=fun i hi=>by
  unfold jK;rw[bW (by omega),abc hi]
 have J8:(jK at_ tr c.ms.length).length=c.ms.length:=by unfold jK;simp[hl]
 have BE: ∀ i,i<c.ms.length->((jK at_ tr c.ms.length).getD i []).length=(c.ms.getD i aK).du.length:=fun i hi=>by rw[hg i hi,om,hrow i hi]
 refine⟨J8,by rw[J8];exact w.n,fun i hi=>BE i (by omega),fun i=> ?_,fun i k hi hk=> ?_⟩
 ·by_cases hi:i<c.ms.length
  ·rw[BE i hi];exact(w.du i hi).2
  ·rw[GD,ac7 (by omega)]
   exact acG _
 ·rw[J8]at hi
  have hd:=w.du i hi;rw[BE i hi]at hk
  rw[hg i hi];have:=LQ (c:=c) (at_:=at_) (l:=tr.getD i []) ⟨h2,h3⟩ (fun k hk=>hB i k (by omega) hk) (tr.getD i []).length (acX _) k (by rw[hrow i hi];exact hk);have⟨a1,a2,a3,a4,a5,a6,a7,a8⟩:=this;exact⟨a1,a2,a3,a4,a5,a6,⟨a7.1,by omega⟩,⟨a8.1,by omega⟩⟩
def tv (d:iP):sZ:=⟨d.fd,d.fa,d.gone,d.jW⟩
def oq (tr:List (List iP)) (t k:Nat):List (List sZ):=(abi tr.length).map fun i=>if i<t then(tr.getD i []).map tv else if i=t then((tr.getD i []).take k).map tv else []
def mM (tr:List (List iP)) (t k:Nat):(oq tr t k).length=tr.length:=by unfold oq;simp
def ot {t k i:Nat} (h:i<(oq tr t k).length):(oq tr t k)[i]=if i<t then(tr.getD i []).map tv else if i=t then((tr.getD i []).take k).map tv else []:=by
 simp only[oq,abV,acz]
def LU {t k:Nat} (h:t<tr.length):(oq tr t k).getD t []=((tr.getD t []).take k).map tv:=by
 unfold oq;rw[bW h,aa9 (by omega),abc rfl]
def NK (tr:List (List iP)):oq tr 0 0=adK tr.length []:=by
 apply abw
 ·simp[oq]
 ·intro i h1 h2
  rw[ot,aa9 (by omega),ad2];split<;>simp
def NI {t:Nat}:oq tr t (tr.getD t []).length=oq tr (t+1) 0:=by
 apply abw
 ·rw[mM,mM]
 ·intro i h1 h2
  rw[ot,ot];by_cases h:i<t
  ·rw[abc h,abc (by omega)]
  ·by_cases e:i=t
   ·subst e
    rw[aa9 (by omega),abc rfl,abc (by omega),adB]
   ·rw[aa9 h,aa9 e,aa9 (by omega)]
    split<;>simp
def NJ {t k:Nat} (ht:t<tr.length) (hk:k<(tr.getD t []).length):(oq tr t k).set t (((tr.getD t []).take k).map tv++[tv ((tr.getD t []).getD k cV)])=oq tr t (k+1):=by
 apply abw
 ·rw[abj,mM,mM]
 ·intro i h1 h2
  rw[ot h2,ac0];by_cases e:t=i
  ·subst e
   rw[abc rfl,aa9 (by omega),abc rfl,abO hk,acD];congr 1;have:(tr.getD t []).getD k cV=(tr.getD t [])[k]:=jh _ _ hk;rw[this];rfl
  ·rw[aa9 e,ot]
   by_cases h3:i<t
   ·rw[abc h3,abc h3]
   ·rw[aa9 h3,aa9 h3,aa9 (fun k=>e k.symm),aa9 (fun k=>e k.symm)]
abbrev q9 (l:List (List sZ)):SC:= .row 1 (RS 4 Ex) (YU 4 Ex S8 iE) [] l
abbrev aai (l:List (List sZ)):Option SB:=some (.rws 4 Ex S8 Yw iE l none)
def oQ (c:dT) (hc:dp c) (x:List Rec) (hx:x.length<=9223372036854775807) (i9: ∀ r∈x,-9223372036854775808<=r.at_) (at_:Int):
  cC abg 13 [dB c,.c (lU x),vI at_] [] (.dt [.c (q9 (if dX c at_=0 then(j8 c x at_).map fun l=>l.map tv else [])),.c (xI (dX c at_))]) []:=by
 have hP:=tP c hc x hx i9 at_;unfold dB at hP⊢;by_cases w1:dX c at_=0
 rotate_right
 ·rw[aa9 w1]
  refine PQ afk ?_;repeat'(first|with_reducible(first|refine aa ?_ ?_|exact⟨⟩|refine DQ ?_|refine ao ?_)|((with_reducible apply aA);refine an (hP) rfl ?_)|((with_reducible apply ah);refine ag rfl ?_ ?_;all_goals(intro hbq;(try simp only[bq,w1]at hbq);(try(exfalso;omega))))|refine RQ ?_|fail)
  all_goals rfl
 rw[abc w1,w1];rw[w1]at hP
 have hI:=Mx hc i9 w1;generalize j8 c x at_=tr at*;have i1:=hI.n10;have i2:=hI.RH;refine PQ afk ?_;repeat'(first|with_reducible(first|refine aa ?_ ?_|exact⟨⟩|(apply q_L;intro hbq))|((with_reducible apply aA);refine an (hP) rfl ?_)|refine AZ ?_|fail)
 refine aI (fun t:Nat=>SS [sC 8 (q8 tr),sC 10 (.c (.arr 1 0 tr.length tr.length)),sC 28 (q8 tr),sI 29 tr.length,sI 30 t] [none,aai (oq tr t 0)]) (fun t=>t<=tr.length) (fun t=>tr.length-t) 0 ?_ (by omega) ?_
 ·
  refine WZ ?_;repeat' with_reducible(first|refine aa ?_ ?_|exact⟨⟩|fail)
  refine aO.YC (fun _=>rfl) ?_ (aO.nil _);rw[NK];simp
 intro t ht;have J8:=mM tr t;by_cases jn:t<tr.length
 ·have i3:=i2 t
  repeat'(first|with_reducible(first|refine aa ?_ ?_|exact⟨⟩|(apply q_L;intro hbq))|refine AZ ?_|fail)
  refine aI (fun k:Nat=>SS [sC 8 (q8 tr),sC 10 (.c (.arr 1 0 tr.length tr.length)),sI 11 t,sC 28 (q8 tr),sI 29 tr.length,sI 30 t,sC 35 (Oe (tr.getD t [])),sI 36 (tr.getD t []).length,sI 37 k] [none,aai (oq tr t k)]) (fun k=>k<=(tr.getD t []).length) (fun k=>(tr.getD t []).length-k) 0 ?_ (by omega) ?_
  ·
   refine WZ ?_;repeat' with_reducible(first|refine aa ?_ ?_|exact⟨⟩|fail)
   all_goals rfl
  intro k hk;have Zu:=J8 k;by_cases nW:k<(tr.getD t []).length
  ·have hrow:((oq tr t k).getD (t:Int).toNat []).length=k:=by
    show((oq tr t k).getD t []).length=k;rw[LU jn,abr,abk];omega
   have mq:=NJ jn nW;repeat'(first|with_reducible(first|refine aa ?_ ?_|exact⟨⟩|(apply q_L;intro hbq))|((with_reducible apply qh);exact rfl)|refine AZ ?_|fail)
   refine LZ (k+1) ?_;repeat' with_reducible(first|refine aa ?_ ?_|exact⟨⟩|fail)
   rw[show(oq tr t k).getD (t:Int).toNat []=_ from LU jn];exact mq.symm
  ·have xW:k=(tr.getD t []).length:=by omega
   subst xW;rw[NI];repeat'(first|with_reducible(first|refine aa ?_ ?_|exact⟨⟩|(apply q_L;intro hbq))|refine AZ ?_|fail)
   refine LZ (t+1) ?_;repeat' with_reducible(first|refine aa ?_ ?_|exact⟨⟩|fail)
   all_goals skip
 have BH:t=tr.length:=by omega
 subst BH;refine ao (aT (aY ?_));refine db rfl ?_ (cN (dI ?_))
 ·trivial
 refine ao (ag rfl ?_ ?_)
 ·intro hbq
  simp only[bq]at hbq;omega
 intro _;refine kh (jT (iC (fM rfl ?_)));refine jq _ (Pv (z:=4) (F:=Ex) (V:=S8) (M:=Yw) (d:=iE) (ls:=oq tr tr.length 0) 1 rfl rfl rfl (dG.refl (acG _))) ?_;simp only[ab2,ab5];have adS:oq tr tr.length 0=tr.map fun l=>l.map tv:=by
  apply abw
  ·rw[mM,abr]
  ·intro i h1 h2
   rw[mM]at h1
   rw[ot,abc h1,abV,jh _ _ h1]
 rw[adS];repeat'(first|with_reducible(first|refine aa ?_ ?_|exact⟨⟩)|(intro _;exact rfl)|refine AZ ?_|fail)
 all_goals first|rfl|simp
def Iy (l:List sZ) (hl:l.length<=9223372036854775807):cC abg 69 [.c (RI l),.c (RI l)] [] (vB true) []:=by
 refine PQ Tryz.func69 ?_;repeat'(first|with_reducible(first|refine aa ?_ ?_|exact⟨⟩|(apply q_L;intro hbq))|refine AZ ?_|fail)
 refine aI (fun i:Nat=>SS [sC 0 (RI l),sC 1 (RI l),sI 12 l.length,sI 13 i] []) (fun i=>i<=l.length) (fun i=>l.length-i) 0 ?_ (by omega) ?_
 ·
  refine WZ ?_;repeat' with_reducible(first|refine aa ?_ ?_|exact⟨⟩|fail)
 ·intro i hi
  repeat'(first|with_reducible(first|refine aa ?_ ?_|exact⟨⟩|(apply q_L;intro hbq))|refine AZ ?_|fail)
  all_goals first|(exfalso;simp at hbq;done)|skip
  ·
   refine LZ (i+1) ?_;repeat' with_reducible(first|refine aa ?_ ?_|exact⟨⟩|fail)
  ·rfl
def pP (l:List (List sZ)) (hl:l.length<=9223372036854775807) (hr: ∀ i,(l.getD i []).length<=9223372036854775807):cC abg 37 [.c (q9 l),.c (q9 l)] [] (vB true) []:=by
 refine PQ Tryz.func37 ?_;repeat'(first|with_reducible(first|refine aa ?_ ?_|exact⟨⟩|(apply q_L;intro hbq))|refine AZ ?_|fail)
 refine aI (fun i:Nat=>SS [sC 0 (q9 l),sC 1 (q9 l),sI 12 l.length,sI 13 i] []) (fun i=>i<=l.length) (fun i=>l.length-i) 0 ?_ (by omega) ?_
 ·
  refine WZ ?_;repeat' with_reducible(first|refine aa ?_ ?_|exact⟨⟩|fail)
 ·intro i hi
  have hS:=Iy (l.getD (i:Int).toNat []) (hr _);repeat'(first|with_reducible(first|refine aa ?_ ?_|exact⟨⟩|(apply q_L;intro hbq))|((with_reducible apply aA);refine an (hS) rfl ?_)|refine AZ ?_|fail)
  ·
   refine LZ (i+1) ?_;repeat' with_reducible(first|refine aa ?_ ?_|exact⟨⟩|fail)
  ·rfl
def BL (b:UInt8):Bool:=decide (b.toNat=32)||decide (b.toNat=9)
def uR (c:Nat):Bool:=decide (33<=c)&&decide (c<=126)&&decide (c≠35)
def BJ (b:UInt8):Bool:=uR b.toNat
def bL (l:List UInt8):ByteArray:=⟨l.toArray⟩
structure PW where
 tx:List UInt8
 ln:Int
 co:Int
def PW.w (p:PW):Js:=⟨bL p.tx,p.ln,p.co⟩
def kD:List PW->UInt8->List PW
 |[],_=>[]
 |[w],b=>[⟨w.tx++[b],w.ln,w.co⟩]
 |w::u::l,b=>w::kD (u::l) b
def xG (s:List UInt8) (ln:Int) (ws:List PW) (i:Nat):List PW:=
 if BL (s.getD i 0)then ws else if 0<i/\BJ (s.getD (i-1) 0)=true then kD ws (s.getD i 0)else ws++[⟨[s.getD i 0],ln,i+1⟩]
def rA (s:List UInt8) (ln:Int):Nat->List PW
 |0=>[]
 |i+1=>xG s ln (rA s ln i) i
def Be (s:List UInt8) (ln:Int):List PW:=rA s ln s.length
def Kv (s:List UInt8):Bool:=s.all fun b=>BL b||BJ b
def ji (s:List UInt8):Nat:=(s.takeWhile fun b=>b != 10).length
def iS:Nat->List UInt8->Int->List (List PW)
 |0,_,_=>[]
 |n+1,s,ln=>if s=[]then []else
  let l:=Be (s.take (ji s)) ln
  (if l=[]then []else [l])++iS n (s.drop (ji s+1)) (ln+1)
def digit (b:UInt8):Bool:=decide (48<=b.toNat)&&decide (b.toNat<=57)
def nC (l:List UInt8):Bool:=decide (1<=l.length)&&decide (l.length<=12)&&l.all digit&&(decide (l.length=1)|| !(l.getD 0 0==48))
def sA (l:List UInt8):Int:=l.foldl (fun n b=>10*n+((b.toNat:Int)-48)) 0
def gH:List ByteArray->List UInt8->Int
 |[],_=> -1
 |x::l,s=>if x.data.toList=s then 0 else let r:=gH l s;if r<0 then -1 else r+1
def BB (s:List UInt8):Int:=if s=[65]then 0 else if s=[66]then 1 else -1
def Gz (L:cg) (w:List PW):Option cg:=
 match w.map PW.tx with
 |[k,a]=>if k=[115,116,97,116,105,111,110]then some { L with ct:=L.ct++[bL a] }else none
 |[k,a,b,c,d]=>
  if k=[115,101,99,116,105,111,110]then
   if nC b&&nC c&&nC d then some { L with ay:=L.ay++[⟨bL a,sA b,sA c,sA d,-1⟩] }else none
  else if k=[108,105,110,107]then
   if 0<=BB b/\0<=BB d/\0<=gH (L.ay.map fH.nm) a/\0<=gH (L.ay.map fH.nm) c then some { L with aE:=L.aE++[⟨gH (L.ay.map fH.nm) a,BB b,gH (L.ay.map fH.nm) c,BB d,-1,0⟩] }else none
  else none
 |[k,a,b,c,d,e,f]=>
  if k=[115,101,99,116,105,111,110]/\e=[97,116]/\(nC b&&nC c&&nC d)=true/\0<=gH L.ct f then some { L with ay:=L.ay++[⟨bL a,sA b,sA c,sA d,gH L.ct f⟩] }else none
 |_=>none
def zv:cg->List (List PW)->Option cg
 |L,[]=>some L
 |L,w::l=>match Gz L w with
  |some L'=>zv L' l
  |none=>none
def Kx (s:List UInt8):Option cg:=zv ⟨[],[],[],[]⟩ (iS (s.length+1) s 1)
def kQ: ∀ (l:List PW) (b:UInt8),(kD l b).length=l.length
 |[],_=>rfl
 |[w],_=>rfl
 |w::u::l,b=>by simp only[kD,adE,kQ (u::l) b]
def um: ∀ (l:List PW) (w:PW) (b:UInt8),kD (l++[w]) b=l++[⟨w.tx++[b],w.ln,w.co⟩]
 |[],w,b=>rfl
 |[u],w,b=>rfl
 |u::v::l,w,b=>by
  have:=um (v::l) w b;simp only[aes,kD]at this⊢;rw[this]
def wO (s:List UInt8) (ln:Int): ∀ i,(rA s ln i).length<=i
 |0=>acX _
 |i+1=>by
  have:=wO s ln i;unfold rA xG;split
  ·omega
  ·split
   ·rw[kQ];omega
   ·simp;omega
def UH {b:UInt8} (h:(BL b||BJ b)=true) (h2: ¬ BL b=true):BJ b=true:=by
 rcases abz _ _▸h with h|h
 ·exact absurd h h2
 ·exact h
def QN {b:UInt8} (h:BJ b=true): ¬ BL b=true:=by
 unfold BJ uR at h;unfold BL;simp only[abt,decide_eq_true_eq,abz]at h⊢;omega
def I1 {s:List UInt8} (ln:Int): ∀ {i:Nat},0<i->BJ (s.getD (i-1) 0)=true->rA s ln i≠[]
 |i+1,_,h=>by
  intro e;have hl:(rA s ln (i+1)).length=0:=by rw[e];rfl
  unfold rA xG at hl;rw[Nat.add_sub_cancel]at h
  rw[aa9 (QN h)]at hl
  split at hl
  next c=>
   rw[kQ]at hl
   exact I1 ln c.1 c.2 (adG hl)
  ·simp at hl
def yW (n:Nat): ∀ (l:List PW) (b:UInt8),(∀ p∈l,p.tx.length<=n)-> ∀ p∈kD l b,p.tx.length<=n+1
 |[],_,_,p,hp=>by cases hp
 |[w],b,h,p,hp=>by
  have:=h w (abq ..);simp only[kD,acQ,acO,or_false]at hp;subst hp;simp;omega
 |w::u::l,b,h,p,hp=>by
  simp only[kD,acQ]at hp;rcases hp with rfl|hp
  ·have:=h p (abq ..);omega
  ·exact yW n (u::l) b (fun q hq=>h q (acE _ hq)) p hp
def I2 (s:List UInt8) (ln:Int): ∀ i,∀ p∈rA s ln i,p.tx.length<=i
 |0,p,hp=>by cases hp
 |i+1,p,hp=>by
  have ih:=I2 s ln i;unfold rA xG at hp;split at hp
  ·have:=ih p hp;omega
  ·split at hp
   ·exact yW i _ _ ih p hp
   ·rcases ac1.1 hp with h|h
    ·have:=ih p h;omega
    ·simp only[acQ,acO,or_false]at h
     subst h;simp
def xc (s:ByteArray) (k:Nat) (h:k<s.size):s.extract k (k+1)=bL [s[k]]:=by
 apply aed;rw[afn];apply Array.ext';rw[Array.toList_extract];show List.extract s.data.toList k (k+1)=[s[k]];rw[List.extract_eq_take_drop,Nat.add_sub_cancel_left,List.drop_eq_getElem_cons (by simpa using h)];rfl
def Xh (a b:List UInt8):bL a++bL b=bL (a++b):=by
 apply aed;rw[afo];simp[bL]
def Lr (a:List UInt8):(bL a).size=a.length:=rfl
end Av
section
open Go.RowKit
open Av
def oF (c:Nat) (w:World) (hc:c<256):
  Calls abg 177 #[.int .u8 c] w fun e w'=>e= .returned (.bool (uR c))/\w=w':=by
 go_enter Tryz.func177,Tryz.ntmps177
 go_wp2
 all_goals
  go_ret
  exact⟨a9 (by rw[aew];simp[uR];try omega),rfl⟩
def QM:(abg.info? 212).map (fun i=>(i.zero,i.size,i.bytes))=some (some (.agg #[.string ⟨#[]⟩,.int .i64 0,.int .i64 0]),3,32):=by kernel_rfl
def wF (p:PW):List Value:=[.string (bL p.tx),.int .i64 p.ln,.int .i64 p.co]
def H6 {w:World} {base:Nat} {e:TypeId} {size g cap n:Nat} {xs:List Value} (h:w.ownsRow base e size (.slice (some ⟨g,0,none⟩) n cap) n xs) {j:Nat} (hj:j<xs.length) (v:Value):(w.setCell ⟨g,j,none⟩ v).ownsRow base e size (.slice (some ⟨g,0,none⟩) n cap) n (xs.set j v):=by
 have⟨h1,h2⟩:=h;refine⟨by rw[abj];exact h1,?_⟩;rcases h2 with ⟨h0,_⟩|⟨g',cap',cur,hv,hg,hh,hn,hcap,hsz,ht⟩
 ·cases h0
 ·cases hv
  refine .inr ⟨g,cap,cur.setIfInBounds j v,rfl,hg,?_,hn,hcap,by simpa using hsz,?_⟩
  ·exact heap_setCell_same _ _ _ _ _ _ hh
  ·rw[Array.toList_setIfInBounds,← ht,List.take_set]
def YM {w:World} {base:Nat} {e:TypeId} {size:Nat} {A:Option Addr} {c n:Nat} {xs:List Value} (h:w.ownsRow base e size (.slice A n c) n xs) (hn:0<n): ∃ g,A=some ⟨g,0,none⟩/\base<=g/\n<=c/\(∀ j,w.frozen? ⟨g,j,none⟩=false)/\ ∀ j u,xs[j]? =some u->w.cell? ⟨g,j,none⟩=some u:=by
 have⟨h1,h2⟩:=h;rcases h2 with ⟨_,h0⟩|⟨g,cap,cur,hv,hg,hh,hle,hcap,hsz,ht⟩
 ·omega
 ·injection hv with e1 e2 e3
  subst e1;subst e3;refine⟨g,rfl,hg,hle,fun j=>by simp[World.frozen?,hh],fun j u hu=> ?_⟩;rw[← ht,aef]at hu
  split at hu
  ·simp only[World.cell?,hh]
   simpa using hu
  ·cases hu
def ac5 (w:World) (ws:List PW) (e:Ending) (w':World):Prop:=
 ∃ A c,e= .returned (.tuple #[.slice A ws.length c,.int .i64 0])/\sg w' w.heap.size 212 3 wF (.slice A ws.length c) ws/\Below w.heap.size w w'
set_option maxRecDepth 3000 in
theorem U9 (s:ByteArray) (ln:Int) (w:World) (hok:Kv s.data.toList=true) (hs:s.size<=65536) (hw:(Be s.data.toList ln).length<=64):Calls abg 138 #[.string s,.int .i64 ln] w (ac5 w (Be s.data.toList ln)):=by
 have⟨i0,hi,hz0,hz1,hz2⟩:=info_parts QM;obtain⟨W,HW⟩: ∃ W:Nat->List PW,Hid (∀ i,rA s.data.toList ln i=W i):=⟨_,acA fun _=>rfl⟩;have hlen:s.data.toList.length=s.size:=by rfl
 go_enter afa,Tryz.ntmps138
 go_wp2
 go_loopw [6,7] (fun v kv wr=> ∃ (k:Nat) (A:Option Addr) (c:Nat),k<=s.size/\kv= .int .i64 k/\v= .slice A (W k).length c/\Hid (wr.ownsRow w.heap.size 212 3 (.slice A (W k).length c) (W k).length ((W k).flatMap wF))/\Hid (Below w.heap.size w wr)) (fun _ kv _=>s.size-(intOf kv).toNat)
 case atStart=>exact⟨0,none,0,by omega,rfl,by rw[← HW.out];rfl,by rw[← HW.out];exact acA (World.ownsRow_nil w w.heap.size 212 3),acA (Below.refl _ _)⟩
 case round=>
  obtain⟨k,A,c,hk,rfl,rfl,Ho,Hb⟩:=hrel;by_cases hlt:k<s.size
  ·have hbk:(BL s[k]||BJ s[k])=true:=by
    have:=acH.1 hok s[k] (by rw[Array.mem_toList_iff];exact Array.getElem_mem hlt);exact this
   have hk1:rA s.data.toList ln (k+1)=xG s.data.toList ln (W k) k:=by rw[← HW.out];rfl
   have hgk:s.data.toList.getD k 0=s[k]:=by
    rw[GD,GE (by rw[hlen];exact hlt)];rfl
   by_cases hsp:BL s[k]=true
   ·have HW1:Hid (W (k+1)=W k):=acA (by rw[← HW.out,hk1];unfold xG;rw[hgk,abc hsp])
    unfold BL at hsp;by_cases h32:s[k].toNat=32
    ·have hb1:((s[k].toNat:Int)==32)=true:=by rw[h32];rfl
     have hb2:((s[k].toNat:Int) != 35)=true:=by rw[h32];rfl
     go_wp2
     go_roundw
     case rel=>exact⟨k+1,A,c,by omega,by go_num,by rw[HW1.out],by rw[HW1.out];exact Ho,Hb⟩
     case measure=>simp[intOf];omega
    ·have h9:s[k].toNat=9:=by simpa[h32]using hsp
     have hb0:((s[k].toNat:Int)==32)=false:=by rw[h9];rfl
     have hb1:((s[k].toNat:Int)==9)=true:=by rw[h9];rfl
     have hb2:((s[k].toNat:Int) != 35)=true:=by rw[h9];rfl
     go_wp2
     go_roundw
     case rel=>exact⟨k+1,A,c,by omega,by go_num,by rw[HW1.out],by rw[HW1.out];exact Ho,Hb⟩
     case measure=>simp[intOf];omega
   ·have hpl:=UH hbk hsp
    have hc:s[k].toNat≠32/\s[k].toNat≠9:=by
     unfold BL at hsp;simp only[abz,decide_eq_true_eq,not_or]at hsp;exact hsp
    have hc2:s[k].toNat≠35:=by
     have:=hpl;unfold BJ uR at this;simp only[abt,decide_eq_true_eq]at this;exact this.2
    have hb0:((s[k].toNat:Int)==32)=false:=by rw[beq_eq_false_iff_ne];omega
    have hb1:((s[k].toNat:Int)==9)=false:=by rw[beq_eq_false_iff_ne];omega
    have hb2:((s[k].toNat:Int) != 35)=true:=by rw[bne_iff_ne];omega
    have HP:Hid (uR s[k].toNat=true):=acA hpl;by_cases hpr:0<k/\BJ (s.data.toList.getD (k-1) 0)=true
    ·obtain⟨j,hj⟩: ∃ j,j=k-1:=⟨_,rfl⟩
     have hk0:1<=k:=by omega
     have hjs:j<s.size:=by omega
     have hji:(k:Int)-1=(j:Int):=by omega
     have hgj:s.data.toList.getD j 0=s[j]:=by
      rw[GD,GE (by rw[hlen];omega)];rfl
     have HQ:Hid (uR s[j].toNat=true):=acA (by have:=hpr.2;rw[← hj,hgj]at this;exact this);have hne:W k≠[]:=by rw[← HW.out];exact I1 ln hpr.1 hpr.2
     have HW1:Hid (W (k+1)=kD (W k) s[k]):=acA (by rw[← HW.out,hk1];unfold xG;rw[hgk,aa9 hsp,abc hpr]);obtain⟨ws,x,Hx⟩: ∃ ws x,Hid (W k=ws++[x]):=⟨_,_,acA (List.dropLast_concat_getLast hne).symm⟩;clear hk1 hgk hbk hpl hsp hpr hgj hc hc2 hne;obtain⟨m,hm⟩: ∃ m,(W k).length=m+1:=⟨ws.length,by rw[Hx.out];simp⟩;have hmw:m=ws.length:=by rw[Hx.out]at hm;simpa using hm.symm
     have Ho':=Ho.out;rw[hm]at Ho'⊢
     obtain⟨g,rfl,hg0,hgc,hfz,hcl⟩:=YM Ho' (Nat.succ_pos _)
     have hcl0:wr.cell? ⟨g,m*3,none⟩=some (.string (bL x.tx)):=hcl (m*3) _ (by
      rw[Hx.out,acI,List.getElem?_append_right (by rw[aV wF 3 (fun _=>rfl),← hmw];omega),aV wF 3 (fun _=>rfl),← hmw,afl];rfl)
     have hfz0:=hfz (m*3);have hmb:m+1<=65536:=by
      have:=wO s.data.toList ln k;rw[HW.out,hm]at this
      omega
     have Hmw:=acA hmw;have Hm:=acA hm;have HO:=acA Ho';clear hj hmw hm hfz hcl Ho' Ho
     go_wp2_with fail
     refine(oF _ _ (acK _)).mono ?_;rintro e w' ⟨rfl,rfl⟩;rw[HP.out]
     go_wp2_with fail
     refine(oF _ _ (acK _)).mono ?_;rintro e w' ⟨rfl,rfl⟩;rw[HQ.out]
     go_wp2
     have hk2:k+1<=s.size:=hlt;have hk3:(k:Int)+1<=(s.size:Int):=by omega
     have hk4:(0:Int)<=(k:Int)+1:=by omega
     have hk5:(0:Int)<=(k:Int):=by omega
     have hk6:(k:Int)<=(k:Int)+1:=by omega
     have hk7:((k:Int)+1).toNat=k+1:=by omega
     have hex:=xc s k hlt;have hxt:x.tx.length<=65536:=by
      have:=I2 s.data.toList ln k x (by rw[HW.out,Hx.out];simp);omega
     have hsum:(bL x.tx).size+(bL [s[k]]).size<=9223372036854775807:=by rw[Lr,Lr];simp;omega
     have hsum2:((bL x.tx).size:Int)+((bL [s[k]]).size:Int)<=9223372036854775807:=by omega
     have hsum3: ¬ (9223372036854775807:Int)<((bL x.tx).size:Int)+((bL [s[k]]).size:Int):=by omega
     (refine gM (fun w'=> ∃ n,w'=World.drewN wr n) 15 (by kernel_rfl) (by kernel_rfl) ⟨1,rfl⟩ ?_;simp only[List.take_succ_cons,aeZ,List.drop_succ_cons,List.drop_zero];(repeat (go_big_quiet_step (fail)));apply wpQuiet_nil;intro w' hw';obtain⟨nq,rfl⟩:=hw')
     have HO1:Hid (((wr.drewN nq).setCell ⟨g,m*3,none⟩ (.string (bL x.tx++bL [s[k]]))).ownsRow w.heap.size 212 3 (.slice (some ⟨g,0,none⟩) (W (k+1)).length c) (W (k+1)).length ((W (k+1)).flatMap wF)):=acA (by
      have h0:(wr.drewN nq).ownsRow w.heap.size 212 3 (.slice (some ⟨g,0,none⟩) (m+1) c) (m+1) ((W k).flatMap wF):=HO.out;have h1:=H6 h0 (j:=m*3) (by rw[aV wF 3 (fun _=>rfl),Hm.out];omega) (.string (bL x.tx++bL [s[k]]));have e2:((W k).flatMap wF).set (m*3) (.string (bL x.tx++bL [s[k]]))=(W (k+1)).flatMap wF:=by
       rw[HW1.out,Hx.out,um,acI,acI,List.set_append_right _ _ (by rw[aV wF 3 (fun _=>rfl),Hmw.out];omega),aV wF 3 (fun _=>rfl),← Hmw.out,afl,Xh];rfl
      have e3:(W (k+1)).length=m+1:=by rw[HW1.out,kQ,Hm.out]
      rw[e2]at h1
      rw[e3];exact h1)
     have HB1:Hid (Below w.heap.size w ((wr.drewN nq).setCell ⟨g,m*3,none⟩ (.string (bL x.tx++bL [s[k]])))):=acA (Below.setCell (show Below w.heap.size w (wr.drewN nq)from⟨Hb.out.os,Hb.out.tape,Hb.out.output,Hb.out.size,Hb.out.block⟩) (by exact hg0) _);have e4:(W (k+1)).length=m+1:=by rw[HW1.out,kQ,Hm.out]
     go_wp2
     generalize (wr.drewN nq).setCell ⟨g,m*3,none⟩ (.string (bL x.tx++bL [s[k]]))=w5 at*
     go_roundw
     case rel=>exact⟨k+1,some ⟨g,0,none⟩,c,by omega,by go_num,by rw[e4],HO1,HB1⟩
     case measure=>simp[intOf];omega
    ·have HW1:Hid (W (k+1)=W k++[⟨[s[k]],ln,k+1⟩]):=acA (by rw[← HW.out,hk1];unfold xG;rw[hgk,aa9 hsp,aa9 hpr])
     have hex:=xc s k hlt;have hWl:(W k).length<=65536:=by
      have:=wO s.data.toList ln k;rw[HW.out]at this
      omega
     have hk2:k+1<=s.size:=hlt;have hk3:(k:Int)+1<=(s.size:Int):=by omega
     have hk4:(0:Int)<=(k:Int)+1:=by omega
     have hk5:(0:Int)<=(k:Int):=by omega
     have hk6:(k:Int)<=(k:Int)+1:=by omega
     have hk7:((k:Int)+1).toNat=k+1:=by omega
     by_cases hk0:k=0
     ·have hkz: ¬ (0:Int)<(k:Int):=by omega
      have hkz2: ¬ 0<k:=by omega
      clear hk1 hgk hbk hpl hsp hpr hc hc2 hk0
      go_wp2_with fail
      refine(oF _ _ (acK _)).mono ?_;rintro e w' ⟨rfl,rfl⟩;rw[HP.out]
      go_wp2_with (at_builtin;refine wpList_append_lies _ (by rfl) _ _ _ (by rfl) w.heap.size 212 i0 (.agg #[.string ⟨#[]⟩,.int .i64 0,.int .i64 0]) 3 32 aeg hi hz0 hz1 hz2 rfl (by omega) _ (W k).length _ (by rfl) (Ho.out.alloc _) ⟨wr.heap.size,0,none⟩ 1 1 [.string (bL [s[k]]),.int .i64 ln,.int .i64 (k+1)] (by rfl) (by rfl) ?c1 ?c2 (by omega) ?c3 ?c4 ?c5 (wr.heap.size+1) (by simp) ?_)
      case c1=>exact World.news_of_block (heap_alloc_new wr _)
      case c2=>intro u hu;simp at hu;rcases hu with rfl|rfl|rfl<;>rfl
      case c3=>unfold maxLen;omega
      case c4=>omega
      case c5=>have:=Hb.out.size;simp;omega
      intro g cap w1 hown hg hat hlt1;have Hown:Hid (w1.ownsRow w.heap.size 212 3 (.slice (some ⟨g,0,none⟩) ((W k).length+1) cap) ((W k).length+1) ((W (k+1)).flatMap wF)):=acA (by rw[HW1.out,acI];exact hown);have Hb1:Hid (Below w.heap.size w w1):=acA ((Hb.out.alloc Hb.out.size _).grown hg (by have:=Hb.out.size;simp;omega) (fun q hq=>((Ho.out.lt q hq).1)));have e4:(W (k+1)).length=(W k).length+1:=by rw[HW1.out];simp
      clear hown hg hat
      go_wp2
      go_roundw
      case rel=>exact⟨k+1,some ⟨g,0,none⟩,cap,by omega,by go_num,by rw[e4],by rw[e4];exact Hown,Hb1⟩
      case measure=>simp[intOf];omega
     ·obtain⟨j,hj⟩: ∃ j,j=k-1:=⟨_,rfl⟩
      have hk0:1<=k:=by omega
      have hjs:j<s.size:=by omega
      have hji:(k:Int)-1=(j:Int):=by omega
      have hgj:s.data.toList.getD j 0=s[j]:=by
       rw[GD,GE (by rw[hlen];omega)];rfl
      have HQ:Hid (uR s[j].toNat=false):=acA (by
       cases e:uR s[j].toNat with
       |false=>rfl
       |true=>exact absurd ⟨by omega,by rw[← hj,hgj];exact e⟩ hpr)
      clear hk1 hgk hbk hpl hsp hpr hgj hc hc2 hj
      go_wp2_with fail
      refine(oF _ _ (acK _)).mono ?_;rintro e w' ⟨rfl,rfl⟩;rw[HP.out]
      go_wp2_with fail
      refine(oF _ _ (acK _)).mono ?_;rintro e w' ⟨rfl,rfl⟩;rw[HQ.out]
      go_wp2_with (at_builtin;refine wpList_append_lies _ (by rfl) _ _ _ (by rfl) w.heap.size 212 i0 (.agg #[.string ⟨#[]⟩,.int .i64 0,.int .i64 0]) 3 32 aeg hi hz0 hz1 hz2 rfl (by omega) _ (W k).length _ (by rfl) (Ho.out.alloc _) ⟨wr.heap.size,0,none⟩ 1 1 [.string (bL [s[k]]),.int .i64 ln,.int .i64 (k+1)] (by rfl) (by rfl) ?c1 ?c2 (by omega) ?c3 ?c4 ?c5 (wr.heap.size+1) (by simp) ?_)
      case c1=>exact World.news_of_block (heap_alloc_new wr _)
      case c2=>intro u hu;simp at hu;rcases hu with rfl|rfl|rfl<;>rfl
      case c3=>unfold maxLen;omega
      case c4=>omega
      case c5=>have:=Hb.out.size;simp;omega
      intro g cap w1 hown hg hat hlt1;have Hown:Hid (w1.ownsRow w.heap.size 212 3 (.slice (some ⟨g,0,none⟩) ((W k).length+1) cap) ((W k).length+1) ((W (k+1)).flatMap wF)):=acA (by rw[HW1.out,acI];exact hown);have Hb1:Hid (Below w.heap.size w w1):=acA ((Hb.out.alloc Hb.out.size _).grown hg (by have:=Hb.out.size;simp;omega) (fun q hq=>((Ho.out.lt q hq).1)));have e4:(W (k+1)).length=(W k).length+1:=by rw[HW1.out];simp
      clear hown hg hat
      go_wp2
      go_roundw
      case rel=>exact⟨k+1,some ⟨g,0,none⟩,cap,by omega,by go_num,by rw[e4],by rw[e4];exact Hown,Hb1⟩
      case measure=>simp[intOf];omega
  ·obtain rfl:s.size=k:=by omega
   have hwl:(W s.size).length<=64:=by rw[← HW.out,← hlen];exact hw
   have HWO:Hid (Be s.data.toList ln=W s.size):=acA (HW.out _)
   go_wp2
   go_ret2
   exact⟨A,c,by rw[HWO.out];rfl,by rw[HWO.out];exact Ho.out,Hb.out⟩
end
namespace Av
open Go.RowKit
abbrev dW:Js:=⟨⟨#[]⟩,0,0⟩
def NH (l:List PW):(l.map PW.w).flatMap NF=(l.flatMap wF).map au.v:=by
 induction l with
 |nil=>rfl
 |cons a l ih=>simp only[ae2,adA,acD,ih];rfl
def Ro {P:Program} {f:FuncId} {args:List al} {t:TypeId} (fn:Func) (hf:P.funcs[f]? =some fn) (hb:fn.body.isSome=true) (hn:(fn.name== "runtime.NumGoroutine")=false) (ws:List PW)
  (h: ∀ (w:World) (κ:Nat->BK) (ρ:Nat->Nat) (vals:Array Value),vals.size=args.length->(∀ i (h:i<args.length) (h':i<vals.size) l,cm w κ ρ l args[i] vals[i])->Calls P f vals w fun e w'=> ∃ A c,e= .returned (.tuple #[.slice A ws.length c,.int .i64 0])/\sg w' w.heap.size t 3 wF (.slice A ws.length c) ws/\Below w.heap.size w w'):Ok P f args [] (.dt [.c (.f (.row ((ws.map PW.w).flatMap NF) (ws.map PW.w).length)),.c (.f (.v (.int .i64 0)))]) []:=by
 refine⟨⟨fn,hf,hb,hn⟩,rfl,rfl,acX _,fun w κ ρ vals hs hr hok hH=> ?_⟩;refine(h w κ ρ vals hs hr).mono ?_;rintro e w' ⟨A,c,rfl,hO,hB⟩;refine⟨_,fun g=>if g<w.heap.size then κ g else .lock none,ρ,rfl,fun l=> ?_,⟨fun b cs h=>by simp at h,fun b cs h=>by simp at h⟩,⟨hB.os,hB.tape,hB.output,hB.size,fun g n hg hl=>⟨by rw[abc hg];exact hl,hB.block g hg⟩,⟨hB.size,fun g o x hg _ hx=> ?_,fun g n hg hf=>by rw[abc hg];exact hf⟩⟩,fun _ _=>rfl⟩
 ·refine⟨_,rfl,rfl,fun i hi hi'=> ?_⟩
  match i,hi with
  |0,_=>
   refine⟨rfl,?_⟩;show cQ _ _ (.row ((ws.map PW.w).flatMap NF) (ws.map PW.w).length) (.slice A ws.length c);rw[NH,abr];have⟨h1,h2⟩:=hO;rcases h2 with ⟨h0,h00⟩|⟨g,cap,cur,hv,hg,hh,hle,hcap,hsz,ht⟩
   ·injection h0 with e1 e2 e3
    have:ws=[]:=adG h00;subst this;rw[e1,show c=0 from e3];exact .tL _
   ·injection hv with e1 e2 e3
    subst e1;subst e3;refine iI ⟨g,0,c,rfl,hle,fun j hj=> ?_,fun _=>⟨?_,?_⟩⟩
    ·rw[abr]at hj
     refine⟨(ws.flatMap wF)[j],?_,?_⟩
     ·have hu:(ws.flatMap wF)[j]? =some (ws.flatMap wF)[j]:=GE hj
      conv at hu=>lhs;rw[← ht]
      rw[aef]at hu
      split at hu
      ·simp only[World.cell?,hh,afg]
       simpa using hu
      ·cases hu
     ·rw[abV]
      refine .v _ ?_;have hm:(ws.flatMap wF)[j]∈ws.flatMap wF:=acC hj;have⟨p,_,hp⟩:=List.mem_flatMap.1 hm
      revert hp
      generalize (ws.flatMap wF)[j]=u;intro hp;simp only[wF,acQ,acO,or_false]at hp;rcases hp with rfl|rfl|rfl<;>rfl
    ·exact mT hh
    ·have hnl: ¬ g<w.heap.size:=by omega
     show BK.fits (if g<w.heap.size then κ g else .lock none) _;rw[aa9 hnl];trivial
  |1,_=>exact⟨rfl,.v _ rfl⟩
 ·rw[World.cell?_of_block (w:=w) (a:=⟨g,o,none⟩) (hB.block g hg)]
  exact hx
def YK (l:List UInt8) (ln:Int) (hok:Kv l=true) (hs:l.length<=65536) (hw:(Be l ln).length<=64):cC abg 138 [vS (bL l),vI ln] [] (.dt [.c (On ((Be l ln).map PW.w)),.c (xI 0)]) []:=by
 refine Ro (t:=212) _ afa (by kernel_rfl) (by kernel_rfl) (Be l ln) fun w κ ρ vals CD hr=> ?_;have CD:vals.size=2:=CD;have h0:=(gk.1 (hr 0 (by simp) (by omega) (.slot 0))).1;have h1:=(gk.1 (hr 1 (by simp) (by omega) (.slot 0))).1;have hv:vals= #[.string (bL l),.int .i64 ln]:=by
  apply Array.ext
  ·simpa using CD
  ·intro i hi hi'
   match i,hi' with
   |0,_=>exact h0
   |1,_=>exact h1
 rw[hv];exact U9 (bL l) ln w hok hs hw
def Zd (b:Nat) (h1:48<=b) (h2:b<=57):IntKind.u8.wrap ((b:Int)-48)=(b:Int)-48:=by
 simp only[IntKind.wrap];simp[IntKind.bits,IntKind.signed];omega
def Xy (c:Nat) (hc:c<256):cC abg 201 [.c (.c (.f (.v (.int .u8 c))))] [] (vB (decide ((48:Int)<=c)&&decide ((c:Int)<=57))) []:=by
 refine FQ Tryz.func201 ?_;repeat'(first|with_reducible(first|refine aa ?_ ?_|exact⟨⟩)|(intro(aX:(_:Bool)=true);(try simp only[bq]at aX))|refine AY ?_|fail)
 repeat'(first|with_reducible(first|refine KQ ?_|exact⟨⟩)|refine lC.c ?_|fail)
def HV (l:List UInt8) (i:Nat):Int:=sA (l.take i)
def CS (l:List UInt8) (i:Nat) (h:i<l.length):HV l (i+1)=10*HV l i+(((l.getD i 0).toNat:Int)-48):=by
 unfold HV sA;rw[abO h,adx,GD,GE h];rfl
def HX (l:List UInt8) (hd:l.all digit=true): ∀ i,i<=l.length->0<=HV l i/\HV l i+1<=10^i
 |0,_=>⟨by show(0:Int)<=0;omega,by show(0:Int)+1<=1;omega⟩
 |i+1,h=>by
  have ih:=HX l hd i (by omega);rw[CS l i (by omega)];have hg:digit (l.getD i 0)=true:=by
   rw[GD,GE (by omega)];exact acH.1 hd _ (acC _)
  unfold digit at hg;simp only[abt,decide_eq_true_eq]at hg;have e:(10:Int)^(i+1)=10*10^i:=by rw[Int.pow_succ];omega
  rw[e];omega
def D3 (l:List UInt8) (i:Nat):(bL l).data.getD i 0=l.getD i 0:=by
 simp[bL,Array.getD_eq_getD_getElem?,GD]
def mu (l:List UInt8) (h:nC l=true):cC abg 178 [vS (bL l)] [] (.dt [.c (xI (sA l)),.c (xB true)]) []:=by
 unfold nC at h;simp only[abt,decide_eq_true_eq,abz]at h;have⟨⟨⟨h1,h2⟩,h3⟩,h4⟩:=h;have hz:(bL l).size=l.length:=rfl;have aa3: ∀ i,i<l.length->48<=((bL l).data.getD i 0).toNat/\((bL l).data.getD i 0).toNat<=57:=fun i hi=>by
  rw[D3];have hg:digit (l.getD i 0)=true:=by
   rw[GD,GE hi];exact acH.1 h3 _ (acC _)
  unfold digit at hg;simpa using hg
 have hd0:48<=((bL l).data.getD (0:Int).toNat 0).toNat/\((bL l).data.getD (0:Int).toNat 0).toNat<=57:=aa3 0 (by omega);have hz0:l.length=1\/((bL l).data.getD (0:Int).toNat 0).toNat≠48:=by
  rcases h4 with h|h
  ·exact .inl h
  ·right
   intro e;have e2:(bL l).data.getD (0:Int).toNat 0=l.getD 0 0:=D3 l 0;rw[e2]at e
   have:l.getD 0 0=48:=UInt8.toNat_inj.1 e;rw[this]at h
   simp at h
 have hrg:=HX l h3;have hpw: ∀ i,i<=12->(10:Int)^i<=10^12:=fun i hi=>by
  have:=Nat.pow_le_pow_right (n:=10) (by omega) hi
  exact_mod_cast this
 have hmx:(10:Int)^12=1000000000000:=by rfl
 refine FQ Tryz.func178 ?_;repeat'(first|with_reducible(first|refine aa ?_ ?_|exact⟨⟩|(apply q_L;intro hbq))|(intro(aX:(_:Bool)=_);(try simp only[bq]at aX))|(simp only[aX,bq];done)|refine AZ ?_|fail)
 refine aI (fun i:Nat=>SS [sS 4 (bL l),sI 5 1,sI 6 (HV l i),sI 7 i] []) (fun i=>i<=l.length) (fun i=>l.length-i) 0 ?_ (by omega) ?_
 ·
  refine WZ ?_
  all_goals rfl
 intro i hi;have hr1:=hrg i hi;have BE:=hpw i (by omega);have hD:=Xy ((bL l).data.getD (i:Int).toNat 0).toNat (acK _);by_cases hil:i<l.length
 ·have hdi:48<=((bL l).data.getD (i:Int).toNat 0).toNat/\((bL l).data.getD (i:Int).toNat 0).toNat<=57:=aa3 i hil
  have hu:=Zd _ hdi.1 hdi.2;have hs:=CS l i hil;have e2:(bL l).data.getD (i:Int).toNat 0=l.getD i 0:=D3 l i;repeat'(first|with_reducible(first|refine aa ?_ ?_|exact⟨⟩|(apply q_L;intro hbq))|((with_reducible apply aA);refine an (hD) rfl ?_)|refine AZ ?_|fail)
  ·
   refine LZ (i+1) ?_
   ·rw[hs,hu,e2]
 ·have hie:i=l.length:=by omega
  subst hie;have e1:HV l l.length=sA l:=by unfold HV;rw[adB]
  refine AZ ?_;repeat' first|apply aa|intro hbq
  ·rw[Int.one_mul,e1]
   repeat'(first|with_reducible(first|refine KQ ?_|refine aa ?_ ?_|exact⟨⟩)|refine lC.dt ?_|fail)
def rF (s:List UInt8):(bL s).toList=s:=by rw[ac2];simp[bL]
def sEq {a:ByteArray} {s:List UInt8} (h:(a.toList==(bL s).toList)=true):a.data.toList=s:=by
 rw[rF,ac2]at h
 simpa using h
def ZN {a:ByteArray} {s:List UInt8} (h:(a.toList==(bL s).toList)=false):a.data.toList≠s:=by
 rw[rF,ac2]at h
 simpa using h
def uT (s:List UInt8):cC abg 180 [vS (bL s)] [] (vI (BB s)) []:=by
 unfold BB;have e:(bL s).data.toList=s:=by simp[bL]
 refine FQ Tryz.func180 ?_;refine AY ?_;repeat' first|apply aa|intro hbq
 ·have h:(bL s).data.toList=[65]:=sEq hbq
  rw[e]at h
  rw[abc h];repeat'(first|with_reducible(first|refine KQ ?_|exact⟨⟩)|refine lC.c ?_|fail)
 next XW=>
  have h:(bL s).data.toList≠[65]:=ZN XW;have h2:(bL s).data.toList=[66]:=sEq hbq;rw[e]at h h2
  rw[aa9 h,abc h2];repeat'(first|with_reducible(first|refine KQ ?_|exact⟨⟩)|refine lC.c ?_|fail)
 next XW=>
  have h:(bL s).data.toList≠[65]:=ZN XW;have h2:(bL s).data.toList≠[66]:=ZN hbq;rw[e]at h h2
  rw[aa9 h,aa9 h2];repeat'(first|with_reducible(first|refine KQ ?_|exact⟨⟩)|refine lC.c ?_|fail)
def C2: ∀ {l:List ByteArray} {s:List UInt8} {i:Nat},i<l.length->(l.getD i ⟨#[]⟩).data.toList=s->(∀ j,j<i->(l.getD j ⟨#[]⟩).data.toList≠s)->gH l s=i
 |x::l,s,0,_,h,_=>by unfold gH;rw[abc (show x.data.toList=s from h)];rfl
 |x::l,s,i+1,hi,h,hn=>by
  have h0: ¬ x.data.toList=s:=hn 0 (by omega);have ih:=C2 (l:=l) (s:=s) (i:=i) (by simpa using hi) h (fun j hj=>hn (j+1) (by omega));unfold gH;rw[aa9 h0,ih];simp only;rw[aa9 (by omega)];rfl
def C3: ∀ {l:List ByteArray} {s:List UInt8},(∀ j,j<l.length->(l.getD j ⟨#[]⟩).data.toList≠s)->gH l s= -1
 |[],s,_=>rfl
 |x::l,s,hn=>by
  have h0: ¬ x.data.toList=s:=hn 0 (by simp);have ih:=C3 (l:=l) (s:=s) (fun j hj=>hn (j+1) (by simpa using hj));unfold gH;rw[aa9 h0,ih];rfl
def AI (l:List ByteArray) (s:List UInt8) (hl:l.length<=1000):cC abg 179 [.c (eP l),vS (bL s)] [] (vI (gH l s)) []:=by
 refine FQ Tryz.func179 ?_;repeat'(first|with_reducible(first|refine aa ?_ ?_|exact⟨⟩)|refine AY ?_|fail)
 refine aI (fun i:Nat=>SS [sC 0 (eP l),sS 1 (bL s),sI 5 i] []) (fun i=>i<=l.length/\ ∀ j,j<i->(l.getD j ⟨#[]⟩).data.toList≠s) (fun i=>l.length-i) 0 ?_ ⟨by omega,fun j hj=>by omega⟩ ?_
 ·
  refine WZ ?_;repeat' with_reducible(first|refine aa ?_ ?_|exact⟨⟩|fail)
 intro i hi;obtain⟨hi,dQ⟩:=hi;repeat'(first|with_reducible(first|refine aa ?_ ?_|exact⟨⟩|(apply q_L;intro hbq))|refine AY ?_|fail)
 ·rw[C2 (l:=l) (s:=s) (i:=i) (by omega) (sEq hbq) dQ]
  repeat'(first|with_reducible(first|refine KQ ?_|exact⟨⟩)|refine lC.c ?_|fail)
 ·
  refine LY (i+1) (⟨by omega,bM dQ (ZN hbq)⟩) ?_;repeat' with_reducible(first|refine aa ?_ ?_|exact⟨⟩|fail)
 ·rw[C3 (l:=l) (s:=s) (fun j hj=>dQ j (by omega))]
  repeat'(first|with_reducible(first|refine KQ ?_|exact⟨⟩)|refine lC.c ?_|fail)
abbrev uw (L:cg):Option SB:=some (.cells [Ze L.ct,Ze L.bo,aeY L.ay,aeX L.aE])
def JP (L:cg) (w:List Js) (a b c d:List UInt8) (hl:w.length=5) (ha:(w.getD (1:Int).toNat dW).tx=bL a) (hb:(w.getD (2:Int).toNat dW).tx=bL b) (hc:(w.getD (3:Int).toNat dW).tx=bL c) (hd:(w.getD (4:Int).toNat dW).tx=bL d) (h1:nC b=true) (h2:nC c=true) (h3:nC d=true) (hL:L.ay.length<=1000):
  cC abg 139 [.c (pB 0),.c (On w)] [uw L] (vI 0) [uw { L with ay:=L.ay++[⟨bL a,sA b,sA c,sA d,-1⟩] }]:=by
 have n1:=mu b h1;have n2:=mu c h2;have n3:=mu d h3;rw[← hb]at n1
 rw[← hc]at n2
 rw[← hd]at n3
 refine FQ afb ?_;repeat'(first|with_reducible(first|refine aa ?_ ?_|exact⟨⟩|(apply q_L;intro hbq))|((with_reducible apply aA);first|refine an (n1) rfl ?_|refine an (n2) rfl ?_|refine an (n3) rfl ?_)|(intro(aX:(_:Bool)=_);(try simp only[bq]at aX))|((with_reducible apply qh);exact rfl)|refine AZ ?_|fail)
 ·rfl
 ·rw[ha]
  repeat'(first|with_reducible(first|refine KQ ?_|refine aa ?_ ?_|exact⟨⟩)|fail)
def Ef (L:cg) (w:List Js) (a b c d e f:List UInt8) (hl:w.length=7) (ha:(w.getD (1:Int).toNat dW).tx=bL a) (hb:(w.getD (2:Int).toNat dW).tx=bL b) (hc:(w.getD (3:Int).toNat dW).tx=bL c) (hd:(w.getD (4:Int).toNat dW).tx=bL d) (he:(w.getD (5:Int).toNat dW).tx=bL [97,116]) (hf:(w.getD (6:Int).toNat dW).tx=bL f) (h1:nC b=true) (h2:nC c=true) (h3:nC d=true) (hp:0<=gH L.ct f) (hL:L.ay.length<=1000) (hS:L.ct.length<=1000):
  cC abg 139 [.c (pB 0),.c (On w)] [uw L] (vI 0) [uw { L with ay:=L.ay++[⟨bL a,sA b,sA c,sA d,gH L.ct f⟩] }]:=by
 have n1:=mu b h1;have n2:=mu c h2;have n3:=mu d h3;have n4:=AI L.ct f hS;rw[← hb]at n1
 rw[← hc]at n2
 rw[← hd]at n3
 rw[← hf]at n4
 refine FQ afb ?_;repeat'(first|with_reducible(first|refine aa ?_ ?_|exact⟨⟩|(apply q_L;intro hbq))|((with_reducible apply aA);first|refine an (n1) rfl ?_|refine an (n2) rfl ?_|refine an (n3) rfl ?_|refine an (n4) rfl ?_)|(intro(aX:(_:Bool)=_);(try simp only[bq]at aX))|((with_reducible apply qh);exact rfl)|refine AZ ?_|fail)
 ·exact absurd (show(w.getD (5:Int).toNat dW).tx.data.toList=[97,116]by rw[he];simp[bL]) (ZN (s:=[97,116]) hbq.2)
 ·exact absurd (show(w.getD (5:Int).toNat dW).tx.data.toList=[97,116]by rw[he];simp[bL]) (ZN (s:=[97,116]) hbq.2)
 ·rfl
 ·rw[ha]
  repeat'(first|with_reducible(first|refine KQ ?_|refine aa ?_ ?_|exact⟨⟩)|fail)
def JO (L:cg) (w:List Js) (a b c d:List UInt8) (hl:w.length=5) (ha:(w.getD (1:Int).toNat dW).tx=bL a) (hb:(w.getD (2:Int).toNat dW).tx=bL b) (hc:(w.getD (3:Int).toNat dW).tx=bL c) (hd:(w.getD (4:Int).toNat dW).tx=bL d) (h1:0<=BB b) (h2:0<=BB d) (h3:0<=gH (L.ay.map fH.nm) a) (h4:0<=gH (L.ay.map fH.nm) c) (hL:L.ay.length<=1000) (NL:L.aE.length<=1000):
  cC abg 140 [.c (pB 0),.c (On w)] [uw L] (vI 0) [uw { L with aE:=L.aE++[⟨gH (L.ay.map fH.nm) a,BB b,gH (L.ay.map fH.nm) c,BB d,-1,0⟩] }]:=by
 have n1:=uT b;have n2:=uT d;have n3:=xA L hL;have n4:=AI (L.ay.map fH.nm) a (by simpa using hL);have n5:=AI (L.ay.map fH.nm) c (by simpa using hL);rw[← hb]at n1
 rw[← hd]at n2
 rw[← ha]at n4
 rw[← hc]at n5
 unfold cc at n3;refine FQ Tryz.func140 ?_;repeat'(first|with_reducible(first|refine aa ?_ ?_|exact⟨⟩|(apply q_L;intro hbq))|((with_reducible apply aA);first|refine an (n1) rfl ?_|refine an (n2) rfl ?_|refine an (n3) rfl ?_|refine an (n4) rfl ?_|refine an (n5) rfl ?_)|(intro(aX:(_:Bool)=_);(try simp only[bq]at aX))|((with_reducible apply qh);exact rfl)|(simp only[aX,bq];done)|refine AZ ?_|fail)
 ·rfl
 ·
  repeat'(first|with_reducible(first|refine KQ ?_|refine aa ?_ ?_|exact⟨⟩)|fail)
def wNe {w:List Js} {i:Nat} {a b:List UInt8} (h:(w.getD i dW).tx=bL a) (hab:a≠b):((w.getD i dW).tx.toList==(bL b).toList)=false:=by
 rw[h,rF,rF];simpa using hab
def wEq {w:List Js} {i:Nat} {a:List UInt8} (h:(w.getD i dW).tx=bL a):((w.getD i dW).tx.toList==(bL a).toList)=true:=by
 rw[h];simp
def JQ (L L':cg) (ws:List PW) (h:Gz L ws=some L') (hL:L.ay.length<=1000) (NL:L.aE.length<=1000) (hS:L.ct.length<=1000):
  cC abg 94 [.c (pB 0),.c (On (ws.map PW.w))] [uw L] (vI 0) [uw L']:=by
 have hg: ∀ i,i<ws.length->((ws.map PW.w).getD i dW).tx=bL ((ws.map PW.tx).getD i []):=fun i hi=>by
  simp[GD,ady,GE hi,PW.w]
 have hwl:(ws.map PW.w).length=ws.length:=by simp
 have jn:(ws.map PW.tx).length=ws.length:=by simp
 unfold Gz at h;generalize ws.map PW.w=w at*;generalize ws.map PW.tx=tx at*
 match tx,h with
 |[k,a],h=>
  have hn:ws.length=2:=by rw[← jn];rfl
  have hw:w.length=2:=by rw[hwl,hn]
  have h0:(w.getD (0:Int).toNat dW).tx=bL k:=hg 0 (by omega);have h1:(w.getD (1:Int).toNat dW).tx=bL a:=hg 1 (by omega);simp only at h;split at h
  next hk=>
   cases h;rw[hk]at h0
   have q0:((w.getD (0:Int).toNat { tx:={ data:= #[] },ln:=0,co:=0 }).tx.toList==acL ⟨#[115,116,97,116,105,111,110]⟩)=true:=wEq h0;refine FQ adH ?_;repeat'(first|with_reducible(first|refine aa ?_ ?_|exact⟨⟩|refine DQ ?_|assumption|refine ao ?_|refine av ?_|exact VQ|exact BQ)|((with_reducible apply ah);refine ag rfl ?_ ?_;all_goals(intro hbq;(try simp only[bq,q0]at hbq);(try(exfalso;omega))))|refine RQ ?_|(intro(aX:(_:Bool)=true);(try simp only[bq]at aX))|((with_reducible apply cF);simp only[bq])|((with_reducible apply bG);rfl)|((with_reducible apply qh);exact rfl)|omega)
   ·rfl
   ·rw[h1]
    repeat'(first|with_reducible(first|refine KQ ?_|refine aa ?_ ?_|exact⟨⟩)|fail)
  ·cases h
 |[k,a,b,c,d],h=>
  have hn:ws.length=5:=by rw[← jn];rfl
  have hw:w.length=5:=by rw[hwl,hn]
  have h0:(w.getD (0:Int).toNat dW).tx=bL k:=hg 0 (by omega);have h1:(w.getD (1:Int).toNat dW).tx=bL a:=hg 1 (by omega);have h2:(w.getD (2:Int).toNat dW).tx=bL b:=hg 2 (by omega);have h3:(w.getD (3:Int).toNat dW).tx=bL c:=hg 3 (by omega);have h4:(w.getD (4:Int).toNat dW).tx=bL d:=hg 4 (by omega);simp only at h;split at h
  next hk=>
   split at h
   next vG=>
    cases h;simp only[abt]at vG;rw[hk]at h0
    have q0:((w.getD (0:Int).toNat { tx:={ data:= #[] },ln:=0,co:=0 }).tx.toList==acL ⟨#[115,101,99,116,105,111,110]⟩)=true:=wEq h0;have hD:=JP L w a b c d hw h1 h2 h3 h4 vG.1.1 vG.1.2 vG.2 hL;refine FQ adH ?_;repeat'(first|with_reducible(first|refine aa ?_ ?_|exact⟨⟩|refine DQ ?_|assumption|refine ao ?_|refine av ?_|exact VQ)|((with_reducible apply aA);refine bY [0] (hD) rfl rfl rfl rfl rfl rfl rfl rfl rfl rfl rfl rfl rfl ?_)|((with_reducible apply ah);refine ag rfl ?_ ?_;all_goals(intro hbq;(try simp only[bq,q0]at hbq);(try(exfalso;omega))))|refine RQ ?_|(intro(aX:(_:Bool)=_);(try simp only[bq]at aX))|((with_reducible apply cF);simp only[bq])|omega)
    ·rfl
    ·
     repeat'(first|with_reducible(first|refine KQ ?_|refine aa ?_ ?_|exact⟨⟩)|fail)
   ·cases h
  ·split at h
   next hk=>
    split at h
    next vG=>
     cases h;rw[hk]at h0
     have q0:((w.getD (0:Int).toNat { tx:={ data:= #[] },ln:=0,co:=0 }).tx.toList==acL ⟨#[115,101,99,116,105,111,110]⟩)=false:=wNe h0 (by decide);have q1:((w.getD (0:Int).toNat { tx:={ data:= #[] },ln:=0,co:=0 }).tx.toList==acL ⟨#[108,105,110,107]⟩)=true:=wEq h0;have hD:=JO L w a b c d hw h1 h2 h3 h4 vG.1 vG.2.1 vG.2.2.1 vG.2.2.2 hL NL;refine FQ adH ?_;repeat'(first|with_reducible(first|refine aa ?_ ?_|exact⟨⟩|refine DQ ?_|assumption|refine ao ?_|refine av ?_|exact VQ)|((with_reducible apply aA);refine bY [0] (hD) rfl rfl rfl rfl rfl rfl rfl rfl rfl rfl rfl rfl rfl ?_)|((with_reducible apply ah);refine ag rfl ?_ ?_;all_goals(intro hbq;(try simp only[bq,q0,q1]at hbq);(try(exfalso;omega))))|refine RQ ?_|(intro(aX:(_:Bool)=_);(try simp only[bq]at aX))|((with_reducible apply cF);simp only[bq])|omega)
     ·rfl
     ·
      repeat'(first|with_reducible(first|refine KQ ?_|refine aa ?_ ?_|exact⟨⟩)|fail)
    ·cases h
   ·cases h
 |[k,a,b,c,d,e,f],h=>
  have hn:ws.length=7:=by rw[← jn];rfl
  have hw:w.length=7:=by rw[hwl,hn]
  have h0:(w.getD (0:Int).toNat dW).tx=bL k:=hg 0 (by omega);have h1:(w.getD (1:Int).toNat dW).tx=bL a:=hg 1 (by omega);have h2:(w.getD (2:Int).toNat dW).tx=bL b:=hg 2 (by omega);have h3:(w.getD (3:Int).toNat dW).tx=bL c:=hg 3 (by omega);have h4:(w.getD (4:Int).toNat dW).tx=bL d:=hg 4 (by omega);have h5:(w.getD (5:Int).toNat dW).tx=bL e:=hg 5 (by omega);have h6:(w.getD (6:Int).toNat dW).tx=bL f:=hg 6 (by omega);simp only at h;split at h
  next hk=>
   cases h;have⟨hk,he,vG,hp⟩:=hk;simp only[abt]at vG;rw[hk]at h0
   rw[he]at h5
   have q0:((w.getD (0:Int).toNat { tx:={ data:= #[] },ln:=0,co:=0 }).tx.toList==acL ⟨#[115,101,99,116,105,111,110]⟩)=true:=wEq h0;have hD:=Ef L w a b c d [97,116] f hw h1 h2 h3 h4 h5 h6 vG.1.1 vG.1.2 vG.2 hp hL hS;refine FQ adH ?_;repeat'(first|with_reducible(first|refine aa ?_ ?_|exact⟨⟩|refine DQ ?_|assumption|refine ao ?_|refine av ?_|exact VQ)|((with_reducible apply aA);refine bY [0] (hD) rfl rfl rfl rfl rfl rfl rfl rfl rfl rfl rfl rfl rfl ?_)|((with_reducible apply ah);refine ag rfl ?_ ?_;all_goals(intro hbq;(try simp only[bq,q0]at hbq);(try(exfalso;omega))))|refine RQ ?_|(intro(aX:(_:Bool)=_);(try simp only[bq]at aX))|((with_reducible apply cF);simp only[bq])|omega)
   ·rfl
   ·
    repeat'(first|with_reducible(first|refine KQ ?_|refine aa ?_ ?_|exact⟨⟩)|fail)
  ·cases h
end Av
end Go.Proofs.YtjkeeocnekggfaaGreat
