import Derived.Test.YtjkeeocnekggfaaGreatPYF
set_option linter.defProp false
set_option linter.unusedVariables false
set_option linter.unusedSimpArgs false
set_option maxRecDepth 4000
set_option maxHeartbeats 4000000
open Go.DataW renaming trod->abq,trod_string->ab2,trod_struct->ab5,Trod->acF
open Go.Proofs.Tryz renaming underlying3->abg,prog->abh,underlying9->abA,underlying32->acz,underlying23->acA
open Go.WideShapes renaming add_plain->abk
open Go.World renaming block_lt_of_cell?->abO,cells?_some->aca
open List renaming length_singleton->abi,length_append->abj,mem_singleton->abr,mem_append->abt,length_map->abw,getElem_map->abz,length_flatten->abP,length_pos_iff->abV,length_nil->acB,mem_map->acD
open Nat renaming zero_le->aby,div_add_mod->acC,mul_comm->acE,le_refl->acG,le_succ->acH
namespace Go.Proofs.YtjkeeocnekggfaaGreat
namespace Av
def Px {P:Program} {ops:Array Oper} {rest:List Oper} {d:Nat} {op:Op} {ty:TypeId} {pos:String} {af:Array Edge} {g:Nat×Bool} {R:Rg} {l:SL} {H:SH} (hw:dF ops (SS l H) ⟨some d,op,ty,pos,af,some g⟩=some false) (h:WR P ops rest (SS ((d,.u)::l) H) (R.push .q0)):WR P ops (⟨some d,op,ty,pos,af,some g⟩::rest) (SS l H) R:=Lh hw h
def Wj {L:cg} (h:Valid L):cP L:=by
 have⟨n1,n2,n3,n4,n5,v1,v2,v3,v4⟩:=h;refine⟨fun x hx=> ?_,fun x hx=> ?_,fun x hx=> ?_,by omega,by omega,by omega,by omega⟩
 ·have:=kA (v1 x hx);omega
 ·have:=kA (v2 x hx);omega
 ·obtain⟨y,hy,rfl⟩:=acD.1 hx
  have:=kA (v3 y hy).1;omega
structure Pd (n0:Nat) (T:St) (e:bN) (s:St):Prop where
 out:e= .normal/\dG n0 s T
def TG {P:Program} {n0:Nat} {a b c:Code} {s:St} {K:bN->St->Prop} (T:St) (h1:W P (DR P) n0 a s (vr P (DR P) n0 b (Pd n0 T))) (h2:W P (DR P) n0 c T K):W P (DR P) n0 a s (vr P (DR P) n0 b (vr P (DR P) n0 c K)):=by
 have h1:W P (DR P) n0 (.seq a b) s (Pd n0 T):=h1
 exact ki (K:=Pd n0 T) (K':=vr P (DR P) n0 c K) (.seq a b) s _ _ (fun e s' h=>by
  obtain⟨rfl,hw⟩:=h.out
  exact jq T hw h2) h1 (fun ops s K K' hK hd=>tY ops s K K' hK hd)
structure CsG (l:List Int) (c:dT):Prop where
 L:c.L=tz l
 sk:c.sk.length=1
 rt:1<=c.rt.length/\c.rt.length<=100
 gK: ∀ r∈c.rt,Z5 r
 ms:c.ms.length<=3
 mss: ∀ m∈c.ms,m.du.length<=2
def P3 (l:List Int) (hl:l.length<=9223372036854775807):I7 abh 17 [.c (fG l)] [] (CsG l) dB (fun _=>[]):=by
 have hP:=Vh l hl;unfold ql.val at hP;have hV:=dJ (L2 l);have hA:=fun st ov how h1 h2=>PH (tz l) hV st ov how h1 h2;obtain⟨rest,L9⟩: ∃ rest:List Int,rest=if 10<(l.length:Int)then l.drop ((l.length:Int) / 2).toNat else []:=⟨_,rfl⟩
 have O5:rest.length<=9223372036854775807:=by
  rw[L9];split
  ·rw[List.length_drop];omega
  ·exact aby _
 have hF:=LV rest;have h0:Src.ok ⟨rest,0⟩:=⟨aby _,O5⟩;generalize (⟨rest,0⟩:Src)=z at*;unfold cc at hA;unfold dB;refine Pu aC Tryz.func17 rfl (by kernel_rfl) (Nat.le_of_ble_eq_true (by kernel_rfl)) (by kernel_rfl) (fun x hx=>⟨rfl,rfl⟩) ?_;simp only[cq,Nat.zero_add,Nat.reduceAdd];repeat'(first|with_reducible(first|refine aa ?_ ?_|exact⟨⟩|refine DQ ?_|fail)|with_reducible(refine ao ?_)|refine RQ ?_|fail)
 refine ug [] hP rfl rfl rfl rfl rfl rfl rfl rfl ?_;rintro p ⟨hp,UD,Wu,hp3⟩;refine⟨_,_,_,_,rfl,rfl,rfl,rfl,rfl,?_⟩;repeat'(first|with_reducible(first|refine aa ?_ ?_|exact⟨⟩|refine DQ ?_|fail)|((with_reducible apply b8 (n:=3)))|with_reducible(refine ao ?_)|refine RQ ?_|fail)
 apply Stop.mk;refine TG (SS [sC 2 (pB 0),sC 3 (pB 1),sC 4 (pB 2),sC 5 (fG rest)] [some (.cells [.c (.f .aD),.c (.f .aD),.c (.f .aD),.c (.f .aD),.c (.f .aD),.c (.f .aD),.c (.f .aD)]),some (.cells [eP (tz l).ct,eP (tz l).bo,lV (tz l).ay,kB (tz l).aE]),some (.cells [xI p.wA,If p.sD,Vk p.gK,Oi p.fC,Of p.kZ,Om p.B0,Ol p.Dp,Og p.aZ])]) ?_ ?_
 ·
  repeat'(first|with_reducible(first|refine aa ?_ ?_|exact⟨⟩|refine DQ ?_|fail)|((with_reducible apply ah);refine ag rfl ?_ ?_;all_goals(intro hbq;(try simp only[bq]at hbq);(try(exfalso;omega))))|refine RQ ?_|(intro _;exact rfl)|omega)
  ·
   rw[L9,if_pos hbq];refine⟨rfl,?_⟩;refine WQ ?_ ?_<;>repeat'(first|with_reducible(first|refine KQ ?_|refine aa ?_ ?_|exact⟨⟩)|refine aw rfl ?_ ?_)
   all_goals rfl
  ·
   rw[L9,if_neg hbq];refine⟨rfl,?_⟩;refine WQ ?_ ?_<;>repeat'(first|with_reducible(first|refine KQ ?_|refine aa ?_ ?_|exact⟨⟩)|refine aw rfl ?_ ?_|exact(rfl:known _=_))
   all_goals rfl
 clear L9 hP;have hr:=hp.gK;have lq:=Wj hV;generalize hgL:tz l=L at*;repeat'(first|with_reducible(first|refine aa ?_ ?_|exact⟨⟩|refine DQ ?_|fail)|((with_reducible apply aA);refine bY [] (hF) rfl rfl rfl rfl rfl rfl rfl rfl rfl rfl rfl rfl rfl ?_)|with_reducible(first|refine ao ?_|refine av ?_)|refine RQ ?_|fail)
 refine aI (fun g:Nat×List jB×Src=>SS [sC 2 (pB 0),sC 3 (pB 1),sC 6 (pB 3),sC 7 (pB 4),sC 38 (Vk p.gK),sI 39 p.gK.length,sI 40 g.1] [some (.cells [.c (.f .aD),.c (.f .aD),.c (.f .aD),.c (.f .aD),.c (.f .aD),.c (.f .aD),.c (.f .aD)]),some (.cells [eP L.ct,eP L.bo,lV L.ay,kB L.aE]),none,some g.2.2.box,some (.cells [eP L.ct,eP L.bo,lV L.ay,kB L.aE,If p.sD,SJ g.2.1,.c (.f .aD)])]) (fun g=>g.1<=p.gK.length/\g.2.1.length=g.1/\(∀ r∈g.2.1,Z5 r)/\g.2.2.ok) (fun g=>p.gK.length-g.1) (0,[],z) ?_ ⟨by simp only;omega,rfl,fun r hr=>(by cases hr),h0⟩ ?_
 ·
  refine WQ ?_ ?_<;>repeat'(first|with_reducible(first|refine KQ ?_|refine aa ?_ ?_|exact⟨⟩)|refine aw rfl ?_ ?_|refine aO.cells ?_ ?_|exact(rfl:known _=_)|omega)
  all_goals rfl
 rintro⟨i,R,s⟩ ⟨hi,hR,hRI,hs⟩;simp only at hi hR hRI hs;by_cases hil:i<p.gK.length
 ·have⟨k0,s1,h1,d0,c0⟩:=cT s 3 hs (by omega) (by omega)
  have hm:p.gK.getD (i:Int).toNat ⟨[],0⟩∈p.gK:=dR hil;have⟨g1,g2,g3⟩:=hp.rt _ hm;have⟨r,hr1,BE⟩:=hA (p.gK.getD (i:Int).toNat ⟨[],0⟩).st (p.gK.getD (i:Int).toNat ⟨[],0⟩).ov k0 g1 (by omega);have hrI:Z5 r:=by
   rcases hr1 with rfl|⟨x,rfl⟩
   ·exact⟨g1,by simp only;omega,.inl g3⟩
   ·refine⟨?_,?_,.inr ⟨rfl,?_⟩⟩
    ·simp only[abj,abi];omega
    ·simp only[abj,abi];omega
    ·simp only[abj,abi];omega
  repeat'(first|with_reducible(first|refine aa ?_ ?_|exact⟨⟩|refine DQ ?_|assumption)|((with_reducible apply aA);first|refine cK [3] (c0) rfl rfl rfl rfl rfl rfl rfl rfl rfl rfl rfl rfl rfl rfl ?_|refine an (BE) rfl ?_)|with_reducible(first|refine ao ?_|refine av ?_)|((with_reducible apply ah);refine ag rfl ?_ ?_;all_goals(intro hbq;(try simp only[bq]at hbq);(try(exfalso;omega))))|refine RQ ?_|((with_reducible apply aJ);exact fun _=>⟨rfl,rfl⟩)|((with_reducible apply aW);kernel_rfl)|((with_reducible apply bG);rfl)|omega|(dsimp only;omega))
  refine ax ((i+1,R++[r],s1)) ?_ (⟨by simp only;omega,by simp[hR],fun x hx=>(abt.1 hx).elim (hRI x) (fun h=>by rw[abr.1 h];exact hrI),h1⟩) (by(try dsimp only);omega);refine WQ ?_ ?_<;>repeat'(first|with_reducible(first|refine KQ ?_|refine aa ?_ ?_|exact⟨⟩)|refine aw rfl ?_ ?_|refine aO.cells ?_ ?_|exact(rfl:known _=_)|omega)
  all_goals first|(simp[OZ,fI];done)|(simp[OZ,hR];done)|rfl|skip
 have hie:i=p.gK.length:=by omega
 subst hie;clear hF h0 hil hi hA;have⟨n0,s1,h1,d1,c1⟩:=cT s 3 hs (by omega) (by omega);repeat'(first|with_reducible(first|refine aa ?_ ?_|exact⟨⟩|refine DQ ?_|fail)|((with_reducible apply aA);refine cK [3] (c1) rfl rfl rfl rfl rfl rfl rfl rfl rfl rfl rfl rfl rfl rfl ?_)|with_reducible(first|refine ao ?_|refine av ?_)|((with_reducible apply ah);refine ag rfl ?_ ?_;all_goals(intro hbq;(try simp only[bq]at hbq);(try(exfalso;omega))))|refine RQ ?_|omega)
 all_goals first|omega|skip
 clear c1;refine aI (fun g:Nat×Int×List FO×Src=>SS [sC 2 (pB 0),sC 3 (pB 1),sC 6 (pB 3),sC 7 (pB 4),sI 10 g.2.1,sI 11 g.1] [some (.cells [.c (.f .aD),.c (.f .aD),.c (.f .aD),.c (.f .aD),.c (.f .aD),.c (.f .aD),.c (.f .aD)]),some (.cells [eP L.ct,eP L.bo,lV L.ay,kB L.aE]),none,some g.2.2.2.box,some (.cells [eP L.ct,eP L.bo,lV L.ay,kB L.aE,If p.sD,SJ R,aeH g.2.2.1])]) (fun g=>g.1+g.2.2.1.length<=3/\0<=g.2.1/\g.2.1+90*g.1<=1000/\(∀ m∈g.2.2.1,m.du.length<=2)/\g.2.2.2.ok) (fun g=>g.1) (1+n0,60,[],s1) ?_ ⟨by simp only[acB];omega,by simp only;omega,by simp only;omega,fun r hr=>(by cases hr),h1⟩ ?_
 ·
  refine WQ ?_ ?_<;>repeat'(first|with_reducible(first|refine KQ ?_|refine aa ?_ ?_|exact⟨⟩)|refine aw rfl ?_ ?_|refine aO.cells ?_ ?_|exact(rfl:known _=_)|omega)
  all_goals first|rfl|omega|skip
 clear hs h1 d1 s1 n0;rintro⟨n,at_,ms,s⟩ ⟨hn,ha0,ha1,QE,hs⟩;simp only at hn ha0 ha1 QE hs⊢;by_cases hn0:0<n
 ·have⟨k,s1,h1,d1,c1⟩:=cT s R.length hs (by omega) (by omega)
  have⟨u,s2,h2,d2,c2⟩:=cT s1 90 h1 (by omega) (by omega);have⟨q,s3,h3,d3,c3⟩:=cT s2 4 h2 (by omega) (by omega);have hAf:=PG R k q (by omega) (by omega) (by omega) hRI;have hj:=Gb R ((R.getD ((k:Nat):Int).toNat ⟨[],0⟩).st.getD (((R.getD ((k:Nat):Int).toNat ⟨[],0⟩).st.length:Int)-1-(R.getD ((k:Nat):Int).toNat ⟨[],0⟩).ov).toNat bm).sec q R.length;replace hj: -1<=(lH R ((R.getD ((k:Nat):Int).toNat ⟨[],0⟩).st.getD (((R.getD ((k:Nat):Int).toNat ⟨[],0⟩).st.length:Int)-1-(R.getD ((k:Nat):Int).toNat ⟨[],0⟩).ov).toNat bm).sec q R.length).1/\(lH R ((R.getD ((k:Nat):Int).toNat ⟨[],0⟩).st.getD (((R.getD ((k:Nat):Int).toNat ⟨[],0⟩).st.length:Int)-1-(R.getD ((k:Nat):Int).toNat ⟨[],0⟩).ov).toNat bm).sec q R.length).1<R.length:=⟨hj.1,hj.2.1⟩;generalize (lH R ((R.getD ((k:Nat):Int).toNat ⟨[],0⟩).st.getD (((R.getD ((k:Nat):Int).toNat ⟨[],0⟩).st.length:Int)-1-(R.getD ((k:Nat):Int).toNat ⟨[],0⟩).ov).toNat bm).sec q R.length).1=j at*;repeat'(first|with_reducible(first|refine aa ?_ ?_|exact⟨⟩|refine DQ ?_|fail)|((with_reducible apply aA);first|refine cK [3] (c1) rfl rfl rfl rfl rfl rfl rfl rfl rfl rfl rfl rfl rfl rfl ?_|refine cK [3] (c2) rfl rfl rfl rfl rfl rfl rfl rfl rfl rfl rfl rfl rfl rfl ?_)|((with_reducible apply b8 (n:=18)))|with_reducible(first|refine ao ?_|refine av ?_)|((with_reducible apply ah);refine ag rfl ?_ ?_;all_goals(intro hbq;(try simp only[bq]at hbq);(try(exfalso;omega))))|refine RQ ?_|omega)
  all_goals first|omega|skip
  apply Stop.mk;refine aT (aY ?_);refine vN rfl ?_ ?_
  ·repeat'(first|exact⟨⟩|apply And.intro)
  refine Xd (z:=3) (by_:=24) (zs:=(Ew bd).map ab.f) (F:=Ew) (V:=VP) abG bd ⟨k,at_+u,0⟩ (by kernel_rfl) rfl rfl rfl rfl ?_;refine db rfl ?_ (cN (jq _ (F4 (z:=3) (F:=Ew) (V:=VP) (M:=abG) (d:=bd) (r:=[⟨k,at_+u,0⟩]) true 5 6 1 (by decide) rfl rfl rfl rfl (acG _) rfl (fun _=>rfl) rfl rfl (dG.refl (aby _))) ?_))
  ·exact⟨⟨trivial,trivial⟩,trivial⟩
  simp only[List.set_cons_zero,List.set_cons_succ,List.cons_append,List.nil_append];repeat'(first|with_reducible(first|exact BQ|refine aa ?_ ?_|exact⟨⟩|refine DQ ?_|fail)|((with_reducible apply aA);first|refine cK [3] (c3) rfl rfl rfl rfl rfl rfl rfl rfl rfl rfl rfl rfl rfl rfl ?_|refine an (hAf) rfl ?_)|((with_reducible apply b8 (n:=20)))|with_reducible(refine ao ?_)|refine RQ ?_)
  all_goals first|omega|skip
  apply Stop.mk;refine aT (aY ?_);refine db rfl ?_ ?_
  ·repeat'(first|exact⟨⟩|apply And.intro|exact fun _=>⟨trivial,trivial⟩)
  by_cases yo:0<=j
  ·refine oW 84 (.v (.c (xB true))) (by show al.c (.f (.v (.bool (decide (0<=j)))))=_;rw[decide_eq_true yo];rfl) ?_
   refine oW 85 (.v (.c (pB 3))) (by show(bif decide (0<=j)then _ else _)=_;rw[decide_eq_true yo];rfl) ?_;refine Jl rfl ?_;have⟨e,s4,h4,d4,c4⟩:=cT s3 3 h3 (by omega) (by omega);have hRk:=hRI _ (dR (d:=⟨[],0⟩) (show((k:Nat):Int).toNat<R.length from d1));have⟨r1,r2,r3⟩:=id hRk;have hLa:=re (R.getD ((k:Nat):Int).toNat ⟨[],0⟩).st (R.getD ((k:Nat):Int).toNat ⟨[],0⟩).ov (by omega) (by omega);have⟨ma,mb,mx,my,mz,mo,mr,me,Zz,hm1,hMk⟩:=abM L lq (R.getD ((k:Nat):Int).toNat ⟨[],0⟩).st (R.getD ((k:Nat):Int).toNat ⟨[],0⟩).ov hRk (p.sD.getD (0:Int).toNat ⟨⟨#[]⟩,0,0,0,0⟩).nm (p.sD.getD (0:Int).toNat ⟨⟨#[]⟩,0,0,0,0⟩).len (p.sD.getD (0:Int).toNat ⟨⟨#[]⟩,0,0,0,0⟩).sp (p.sD.getD (0:Int).toNat ⟨⟨#[]⟩,0,0,0,0⟩).ac (p.sD.getD (0:Int).toNat ⟨⟨#[]⟩,0,0,0,0⟩).br;unfold cc at hMk;have⟨f,s5,h5,d5,c5⟩:=cT s4 30 h4 (by omega) (by omega);have⟨g,s6,h6,d6,c6⟩:=cT s5 60 h5 (by omega) (by omega);repeat'(first|with_reducible(first|exact BQ|exact VQ|refine aa ?_ ?_|exact⟨⟩|refine DQ ?_|fail)|((with_reducible apply aA);first|refine cK [3] (c4) rfl rfl rfl rfl rfl rfl rfl rfl rfl rfl rfl rfl rfl rfl ?_|refine an (hLa) rfl ?_|refine an (hMk) rfl ?_|refine cK [3] (c5) rfl rfl rfl rfl rfl rfl rfl rfl rfl rfl rfl rfl rfl rfl ?_|refine cK [3] (c6) rfl rfl rfl rfl rfl rfl rfl rfl rfl rfl rfl rfl rfl rfl ?_)|with_reducible(refine ao ?_)|((with_reducible apply ah);refine ag rfl ?_ ?_;all_goals(intro hbq;(try simp only[bq]at hbq);(try(exfalso;omega))))|refine RQ ?_|(intro(aX:(_:Bool)=true);(try simp only[bq]at aX))|((with_reducible apply cF);simp only[bq])|((with_reducible apply bG);rfl)|((with_reducible apply qh);exact rfl)|omega)
   all_goals first|omega|(simp only[List.length_cons,acB];omega)|skip
   ·
    refine ax ((n-1,at_+u,ms++[⟨0,[⟨k,at_+u,0⟩,⟨j,at_+u+mr+f+g,f⟩]⟩],s6)) ?_ (⟨by simp only[abj,abi];omega,by simp only;omega,by simp only;omega,fun x hx=>(abt.1 hx).elim (QE x) (fun h=>by rw[abr.1 h];exact acG 2),h6⟩) (by(try dsimp only);omega);refine WQ ?_ ?_<;>repeat'(first|with_reducible(first|refine KQ ?_|refine aa ?_ ?_|exact⟨⟩)|refine aw rfl ?_ ?_|refine aO.cells ?_ ?_|exact(rfl:known _=_)|omega)
    all_goals first|(simp[ND,Ew,fI];done)|rfl|omega
   ·
    refine ax ((n-1,at_+u,ms++[⟨0,[⟨k,at_+u,0⟩]⟩],s4)) ?_ (⟨by simp only[abj,abi];omega,by simp only;omega,by simp only;omega,fun x hx=>(abt.1 hx).elim (QE x) (fun h=>by rw[abr.1 h];exact acH 1),h4⟩) (by(try dsimp only);omega);refine WQ ?_ ?_<;>repeat'(first|with_reducible(first|refine KQ ?_|refine aa ?_ ?_|exact⟨⟩)|refine aw rfl ?_ ?_|refine aO.cells ?_ ?_|exact(rfl:known _=_)|omega)
    all_goals first|(simp[ND,Ew,fI];done)|rfl|omega
  ·refine oW 84 (.v (.c (xB false))) (by show al.c (.f (.v (.bool (decide (0<=j)))))=_;rw[decide_eq_false yo];rfl) ?_
   refine Px rfl ?_;refine Px rfl ?_;refine oW 87 (.g false (.c (xB false))) rfl ?_;change WR _ _ _ _ (.plain _);repeat'(first|with_reducible(first|refine aa ?_ ?_|exact⟨⟩|refine DQ ?_|fail)|((with_reducible apply ah);refine ag rfl ?_ ?_;all_goals(intro hbq;(try simp only[bq]at hbq);(try(exfalso;omega))))|refine RQ ?_|(intro(aX:(_:Bool)=true);(try simp only[bq]at aX))|((with_reducible apply bG);rfl)|omega)
   all_goals first|omega|skip
   refine ax ((n-1,at_+u,ms++[⟨0,[⟨k,at_+u,0⟩]⟩],s3)) ?_ (⟨by simp only[abj,abi];omega,by simp only;omega,by simp only;omega,fun x hx=>(abt.1 hx).elim (QE x) (fun h=>by rw[abr.1 h];exact acH 1),h3⟩) (by(try dsimp only);omega);refine WQ ?_ ?_<;>repeat'(first|with_reducible(first|refine KQ ?_|refine aa ?_ ?_|exact⟨⟩)|refine aw rfl ?_ ?_|refine aO.cells ?_ ?_|exact(rfl:known _=_)|omega)
   all_goals first|(simp[ND,Ew,fI];done)|rfl|omega
 have Jc:n=0:=by omega
 subst Jc;repeat'(first|with_reducible(first|refine aa ?_ ?_|exact⟨⟩|refine DQ ?_|fail)|with_reducible(refine ao ?_)|((with_reducible apply ah);refine ag rfl ?_ ?_;all_goals(intro hbq;(try simp only[bq]at hbq);(try(exfalso;omega))))|refine RQ ?_|fail)
 refine DN rfl (⟨L,p.sD,R,ms⟩:dT) ⟨hgL.symm,Wu,by simp only;omega,hRI,by simp only;omega,QE⟩ ?_ ?_
 ·trivial
 ·rfl
def Qa {l:List Int} {c:dT} (h:CsG l c):dp c:=by
 have h1:=h.sk;have h2:=h.rt;have h3:=h.ms;refine⟨by rw[h.L];exact Wj (dJ (L2 l)),by omega,by omega,by omega,fun r hr=> ?_,fun m hm=> ?_⟩
 ·have⟨g1,g2,g3⟩:=h.gK r hr
  exact⟨by omega,by omega,by omega⟩
 ·have:=h.mss m hm
  omega
def Un {c:dT} (hc:dp c) {x:List Rec} (i9: ∀ r∈x,-9223372036854775808<=r.at_) {at_:Int} (h:dX c at_=0):(j8 c x at_).flatten.length=(jR c x at_ c.ms.length).flatten.length:=by
 have hI:=Mx hc i9 h;have hl:=mZ c x at_ c.ms.length;rw[abP,abP];congr 1;apply List.ext_getElem
 ·rw[abw,abw,hl,hI.n]
 ·intro i h1 h2
  rw[abw]at h1 h2
  rw[abz,abz];have e1:=hI.row i h1;rw[jh _ _ h1]at e1
  have e2:((jR c x at_ c.ms.length).getD i []).length=(c.ms.getD i aK).du.length:=by
   unfold jR;rw[bW (by omega),mK]
  rw[jh _ _ h2]at e2
  rw[e1,e2]
def Vl {c:dT} (hc:dp c) {x:List Rec} (i9: ∀ r∈x,-9223372036854775808<=r.at_) (at_ f t w:Int):ni (dX c at_) (j8 c x at_).flatten.length f t w=ni (dX c at_) (jR c x at_ c.ms.length).flatten.length f t w:=by
 by_cases h:dX c at_=0
 ·rw[Un hc i9 h]
 ·unfold ni
  rw[if_pos h,if_pos h]
def Ny (c:dT) (hc:dp c) (l:List Int) (hl:l.length<=9223372036854775807) (x:List Rec) (hx:x.length<=9223372036854775807) (i9: ∀ r∈x,-9223372036854775808<=r.at_) (at_ dk count f t w:Int):
  cC abh 10 [dB c,.c (fG l),.c (lU x),vI at_,vI dk,vI count,vI f,vI t,vI w] [] (vB true) []:=by
 have hK:=P3 l hl;have hA:=Nz;have p1:=oQ c hc x hx i9 at_;have p2:=pH c hc x hx i9 at_;have p3:=FJ c hc x hx i9 at_ dk count;have p4:=By c hc x hx i9 at_ dk count;unfold dB at p1 p2 p3 p4 hK⊢;refine PQ Tryz.func10 ?_;refine AZ ?_;and_intros
 refine ug [] hK rfl rfl rfl rfl rfl rfl rfl rfl ?_;intro d hd;refine⟨_,_,_,_,rfl,rfl,rfl,rfl,rfl,?_⟩;have hdf:=Qa hd;have d1:=Bv d hdf x hx i9 at_ dk count;have d2:=xP d hdf x hx i9 at_ dk count;have d3:=Jm d hdf x hx i9 at_ f t w;have d4:=E4 d hdf x hx i9 at_ f t w;rw[← Vl hdf i9]at d4
 unfold dB at d1 d2 d3 d4;generalize dX c at_=E at*;generalize ni (dX d at_) (j8 d x at_).flatten.length f t w=G at*;generalize dX d at_=F at*;repeat'(first|with_reducible(first|refine aa ?_ ?_|exact⟨⟩)|((with_reducible apply aA);first|refine an (p1) rfl ?_|refine an (p2) rfl ?_|refine an (p3) rfl ?_|refine an (p4) rfl ?_|refine an (d1) rfl ?_|refine an (d2) rfl ?_|refine an (d3) rfl ?_|refine an (d4) rfl ?_|refine an (hA) rfl ?_)|(intro(aX:(_:Bool)=true);(try simp only[bq]at aX))|refine AZ ?_|fail)
 all_goals first|rfl|(simp only[decide_true,Bool.and_self,Bool.and_true,Bool.true_and];rfl)
open Go.RowKit
def okWide_spot {P:Program} {w:World} {r:Reach} {base:Nat} {t e:TypeId} {v:Value} (ht:P.underlying t=some (.slice e)) (h:Value.okWide P w r base t v) {a:Addr} {len cap:Nat} (hv:v= .slice (some a) len cap):a.spot=none:=by
 subst hv;simp only[Value.okWide,ht,Cell.okWide,Cell.ok]at h;exact h.2.2.2.1
abbrev IsRowI (w:World) (a:Option Addr) (len cap:Nat) (zs:List Int):Prop:=
 (a=none/\len=0/\cap=0/\zs=[])\/ ∃ x,a=some x/\len<=cap/\cap<=maxLen/\zs.length=cap/\(∀ i,i<zs.length->w.cell? (x.add i)=some (.int .i64 (zs.getD i 0)))/\ ∀ n∈zs,(Lit.int .i64 n).wf=true
def Qr (l:List Int):l.flatMap fk=l.map fI:=by
 induction l with
 |nil=>rfl
 |cons x r ih=>rw[List.flatMap_cons,ih];rfl
def RT {w:World} {a:Option Addr} {len cap:Nat} {zs:List Int} (h:IsRowI w a len cap zs) (hs: ∀ x,a=some x->x.spot=none):(∀ l,cm w (fun _=> .lock none) id l (SV.den (.c (fG (zs.take len)))) (.slice a len cap))/\(zs.take len).length<=9223372036854775807:=by
 rcases h with ⟨rfl,rfl,rfl,rfl⟩|⟨x,rfl,hl,hm,hz,hc,_⟩
 ·exact⟨fun l=> .tL _,by simp⟩
 ·unfold maxLen at hm
  have hlen:(zs.take len).length=len:=by rw[List.length_take];omega
  refine⟨fun l=> ?_,by omega⟩;have⟨g,o,sp⟩:=x;have hsp:sp=none:=hs _ rfl;subst hsp;show cQ w _ (.row ((zs.take len).flatMap fk) (zs.take len).length) _;rw[hlen,Qr];have hcell: ∀ i (h:i<(zs.take len).length),w.cell? ⟨g,o+i,none⟩=some (.int .i64 (zs.take len)[i]):=fun i h=>by
   have h1:=hc i (by omega);have e:(⟨g,o,none⟩:Addr).add i=⟨g,o+i,none⟩:=by
    unfold Addr.add;split
    ·rename_i h0;subst h0;rfl
    ·rfl
   rw[e]at h1
   rw[h1,List.getElem_take,GD,GE (by omega)];rfl
  refine iI ⟨g,o,cap,rfl,hl,⟨fun i hi=> ?_,fun hne=> ?_⟩⟩
  ·rw[abw]at hi
   exact⟨_,hcell i hi,by rw[abz];exact cQ.v _ rfl⟩
  ·refine⟨?_,trivial⟩
   have h0:0<(zs.take len).length:=abV.2 (fun e=>hne (by rw[e];rfl));exact abO w _ (hcell 0 h0)
def NW {f:FuncId} {args:List al} (hO:Ok abh f args [] (aB true) []) (w:World) (vals:Array Value) (hs:vals.size=args.length) (hr: ∀ i (h:i<args.length) (h':i<vals.size) l,cm w (fun _=> .lock none) id l args[i] vals[i]) (hok: ∀ x∈args,x.ok 0=true):
  Calls abh f vals w fun e w'=>e= .returned (.bool true)/\Below w.heap.size w w':=by
 refine(hO.run w (fun _=> .lock none) id vals hs hr hok ⟨fun b cs h=>by simp at h,fun b cs h=>by simp at h⟩).mono ?_;rintro e w' ⟨v,κ',ρ',rfl,hv,_,iy,_⟩;have hv:cQ w' κ' (.v (.bool true)) v:=hv (.slot 0);rw[(gk.1 hv).1];exact⟨rfl,iy.os,iy.tape,iy.output,iy.size,fun k hk=>(iy.lock k none hk rfl).2⟩
end Av
section
open Go.ChangeShapes Go.WideShapes Go.Deep Go.RowKit
section
variable {H:Type} {enc:TypeId×Value->H} {P:Program} {w:World} {base:Nat} {spare:Nat->Bool} {held:Bool}
def ub (enc:TypeId×Value->H) (P:Program) (w:World) (base:Nat) (spare:Nat->Bool) (held:Bool) (t:TypeId) (v:Value):Prop:=
 ∃ n y,abq enc P w base spare held n t [v]=some y
def ub.int {t:TypeId} {v:Value} {k:IntKind} (h:ub enc P w base spare held t v) (ht:P.underlying t=some (.int k)): ∃ n,v= .int k n/\(Lit.int k n).wf=true:=by
 have⟨m,y,hm⟩:=h;have⟨n,e,_,hw⟩:=DataW.trod_int ht hm;exact⟨n,by simpa using e,hw⟩
def ub.str {t:TypeId} {v:Value} (h:ub enc P w base spare held t v) (ht:P.underlying t=some .string): ∃ s,v= .string s/\s.size<=maxLen:=by
 have⟨m,y,hm⟩:=h;have⟨s,e,_,hw⟩:=ab2 ht hm;exact⟨s,by simpa using e,hw⟩
def ee {t:TypeId} {fs:Array Field} {fuel:Nat} {cs:List Value} {x:DataW H×List MemPlace} (hs:P.underlying t=some (.struct fs)) (uM:oneCellFields P fs=true) (hC:P.cellsOf t=fs.size)
  (h:abq enc P w base spare held fuel t cs=some x):cs.length=fs.size/\ ∀ (j:Nat) (f:Field),fs[j]? =some f-> ∃ v,cs[j]? =some v/\ub enc P w base spare held f.type v:=by
 have⟨xs,n,_,_,hl,hxl,hf⟩:=ab5 hs h;refine⟨hl.trans hC,fun j f hj=> ?_⟩;have hlt:j<fs.size:=(Array.getElem?_eq_some_iff.1 hj).1;have hjc:j<cs.length:=by omega
 have hjx:j<xs.length:=by omega
 have⟨ho,hk⟩:=hone_of uM j f hj;have h1:=hf j f hj;have e:(cs.drop f.offset).take (P.cellsOf f.type)=[cs[j]]:=by
  rw[ho,hk,List.drop_eq_getElem_cons hjc,List.take_succ_cons,List.take_zero]
 rw[e,GE hjx]at h1
 exact⟨cs[j],GE hjc,n,_,h1⟩
end
def Ml {α:Type} {Q:Nat->α->Prop}: ∀ (n:Nat),(∀ i,i<n-> ∃ a,Q i a)-> ∃ l:List α,l.length=n/\ ∀ i (h:i<l.length),Q i l[i]
 |0,_=>⟨[],rfl,fun i h=>absurd h (Nat.not_lt_zero _)⟩
 |n+1,h=>by
  have⟨l,hl,hq⟩:=Ml n (fun i hi=>h i (by omega));have⟨a,ha⟩:=h n (by omega);refine⟨l++[a],by simp[hl],fun i hi=> ?_⟩;by_cases hin:i<l.length
  ·rw[List.getElem_append_left hin];exact hq i hin
  ·have:i=l.length:=by simp at hi;omega
   subst this;simp[hl,ha]
end
namespace Av
open Go.ChangeShapes Go.WideShapes Go.Deep Go.RowKit
set_option maxRecDepth 100000
def Qq {α β:Type} (F:α->List β) (n:Nat) (hn: ∀ x,(F x).length=n) (l:List α) {i:Nat} (h:i<(l.flatMap F).length) (h0:0<n): ∃ hk:i / n<l.length,(l.flatMap F)[i]? =(F l[i / n])[i%n]? :=by
 have hl:=aV F n hn l;have hk:i / n<l.length:=by rw[Nat.div_lt_iff_lt_mul h0];omega
 refine⟨hk,?_⟩;have:=nr F n hn l (i / n) (i%n) l[i / n] (GE hk) (Nat.mod_lt _ h0)
 rwa [acE,acC]at this
def Vt {α:Type} {F:α->List au} {n:Nat} (hn: ∀ x,(F x).length=n) (h0:0<n) {w:World} {A:Option Addr} {cap:Nat} {l:List α} (hc:l.length<=cap) (hs:(A=none/\l.length=0/\cap=0)\/ ∃ b o,A=some ⟨b,o,none⟩)
  (hq: ∀ i (h:i<l.length),∃ b off,A=some ⟨b,off,none⟩/\b<w.heap.size/\ ∀ j v,(F l[i])[j]? =some v-> ∃ u,w.cell? ⟨b,off+i*n+j,none⟩=some u/\cQ w (fun _=> .lock none) v u):cQ w (fun _=> .lock none) (.row (l.flatMap F) l.length) (.slice A l.length cap):=by
 rcases hs with ⟨rfl,e,rfl⟩|⟨b,o,rfl⟩
 ·have:l=[]:=List.eq_nil_of_length_eq_zero e
  subst this;exact .tL _
 ·refine iI ⟨b,o,cap,rfl,hc,⟨fun i hi=> ?_,fun hne=>⟨?_,trivial⟩⟩⟩
  ·have⟨hk,e⟩:=Qq F n hn l hi h0
   have⟨b',o',e1,_,hf⟩:=hq (i / n) hk;injection e1 with e1;injection e1 with e2 e3;subst e2;subst e3;rw[GE hi]at e
   have⟨u,h1,h2⟩:=hf (i%n) _ e.symm;refine⟨u,?_,h2⟩;rw[Nat.add_assoc,acE,acC]at h1
   exact h1
  ·have hl:0<l.length:=abV.2 fun e=>hne (by rw[e];rfl)
   have⟨b',o',e1,hb,_⟩:=hq 0 hl;injection e1 with e1;injection e1 with e2 e3;subst e2;exact hb
section
variable {H:Type} {enc:TypeId×Value->H} {w:World} {base:Nat} {spare:Nat->Bool} {held:Bool} {r:Reach} {b0:Nat}
end
end Av
namespace Av
open Go.ChangeShapes Go.WideShapes Go.Deep Go.RowKit
set_option maxRecDepth 100000
variable {cs:List Value}
def IB (n:Int):Prop:= -9223372036854775808<=n/\n<=9223372036854775807
def ib {n:Int} (h:(Lit.int .i64 n).wf=true):IB n:=by simpa[IB,Lit.wf,IntKind.min,IntKind.max,IntKind.signed,IntKind.bits]using h
section
variable {H:Type} {enc:TypeId×Value->H} {w:World} {base:Nat} {held:Bool} {r:Reach} {b0:Nat}
def Jh (enc:TypeId×Value->H) (w:World) (base:Nat) (held:Bool) (t:TypeId) (cs:List Value):Prop:= ∃ n y,abq enc abh w base (fun _=>true) held n t cs=some y
def gO {t e:TypeId} {n:Nat} {v:Value} (ht:abh.underlying t=some (.slice e)) (hC:abh.cellsOf e=n) (hpos:0<n) {α:Type} {F:α->List au} (hn: ∀ x,(F x).length=n) {Q:α->Prop}
  (hel: ∀ cs,Jh enc w base held e cs-> ∃ a,Q a/\ ∀ (j:Nat) x,(F a)[j]? =some x-> ∃ u,cs[j]? =some u/\cQ w (fun _=> .lock none) x u) (h:Jh enc w base held t [v]):
  ∃ l:List α,l.length<=9223372036854775807/\(∀ a∈l,Q a)/\cQ w (fun _=> .lock none) (.row (l.flatMap F) l.length) v:=by
 have⟨fuel,y,hf⟩:=h;rcases open_slice ht hf with ⟨h0,_⟩|⟨a,len,cap,m,k,D,Pl,hcs,hb,hl,hm,hmm,hx,hi⟩
 ·have:v= .slice none 0 0:=by simpa using h0
  subst this;exact⟨[],aby _,fun a h=>by simp at h,.tL _⟩
 ·have:v= .slice (some a) len cap:=by simpa using hcs
  subst this;have hm2:m=cap:=by simpa using hmm
  subst hm2;rw[hC]at hi
  by_cases h0:m=0
  ·subst h0
   have:len=0:=by omega
   subst this;exact⟨[],aby _,fun a h=>by simp at h,.tL _⟩
  have⟨b,off,spot⟩:=a;have abu:spot=none:=by
   have⟨cs0,Bo,_⟩:=hi 0 (by omega);have⟨_,hcl0,adO⟩:=aca Bo;have:=adO 0 hpos;rw[GE (by omega)]at this
   simpa[Addr.add]using World.cell?_spot this
  subst abu
  have⟨l,hz,hq⟩:=Ml (Q:=fun i (s:α)=>Q s/\ ∃ b' oE,some (Addr.mk b off none)=some ⟨b',oE,none⟩/\b'<w.heap.size/\ ∀ (j:Nat) v,(F s)[j]? =some v-> ∃ u,w.cell? ⟨b',oE+i*n+j,none⟩=some u/\cQ w (fun _=> .lock none) v u) len (fun i hil=>by
   have⟨cs',hc,ht'⟩:=hi i (by omega);have⟨a,hQ,ha⟩:=hel cs' ⟨_,_,ht'⟩;have⟨_,hcl,hat⟩:=aca hc;have hb0:=hat 0 hpos;rw[GE (by omega)]at hb0
   have hlt:=abO w _ hb0;refine⟨a,hQ,b,off,rfl,by simpa[abk]using hlt,fun j v hv=> ?_⟩;have⟨u,hu,hr⟩:=ha j v hv;have Tk:j<n:=by rw[← hn a];exact(List.getElem?_eq_some_iff.1 hv).1
   have:=hat j Tk;rw[abk,abk,hu]at this
   exact⟨u,this,hr⟩)
  subst hz;refine⟨l,by unfold maxLen at hm;omega,fun a ha=> ?_,Vt hn hpos hl (.inr ⟨b,off,rfl⟩) fun i hil=>(hq i hil).2⟩;obtain⟨i,hil,rfl⟩:=List.mem_iff_getElem.1 ha;exact(hq i hil).1
def Wc (h:Jh enc w base held 9 cs): ∃ s:ByteArray,s.size<=9223372036854775807/\ ∀ (j:Nat) x,(tu s)[j]? =some x-> ∃ u,cs[j]? =some u/\cQ w (fun _=> .lock none) x u:=by
 have⟨m,y,hm⟩:=h;obtain⟨s,rfl,_,hz⟩:=ab2 abA hm;refine⟨s,by unfold maxLen at hz;omega,fun j x hx=> ?_⟩
 match j,hx with
 |0,hx=>cases hx;exact⟨_,rfl,.v _ rfl⟩
def aaA (h:Jh enc w base held 173 cs): ∃ a:fH,a.nm.size<=9223372036854775807/\ ∀ (j:Nat) x,(v5 a)[j]? =some x-> ∃ u,cs[j]? =some u/\cQ w (fun _=> .lock none) x u:=by
 have⟨_,_,h⟩:=h;have hf:=(ee Tryz.underlying173 (by kernel_rfl) (by kernel_rfl) h).2;have⟨u0,e0,l0⟩:=hf 0 _ rfl;have⟨u1,e1,l1⟩:=hf 1 _ rfl;have⟨u2,e2,l2⟩:=hf 2 _ rfl;have⟨u3,e3,l3⟩:=hf 3 _ rfl;have⟨u4,e4,l4⟩:=hf 4 _ rfl;obtain⟨s,rfl,hz⟩:=l0.str abA;obtain⟨n1,rfl,_⟩:=l1.int (k:= .i64) abg;obtain⟨n2,rfl,_⟩:=l2.int (k:= .i64) abg;obtain⟨n3,rfl,_⟩:=l3.int (k:= .i64) abg;obtain⟨n4,rfl,_⟩:=l4.int (k:= .i64) abg;refine⟨⟨s,n1,n2,n3,n4⟩,by unfold maxLen at hz;simp only;omega,fun j x hx=> ?_⟩
 match j,hx with
 |0,hx=>cases hx;exact⟨_,e0,.v _ rfl⟩
 |1,hx=>cases hx;exact⟨_,e1,.v _ rfl⟩
 |2,hx=>cases hx;exact⟨_,e2,.v _ rfl⟩
 |3,hx=>cases hx;exact⟨_,e3,.v _ rfl⟩
 |4,hx=>cases hx;exact⟨_,e4,.v _ rfl⟩
def aaB (h:Jh enc w base held 113 cs): ∃ a:I8,a.nm.size<=9223372036854775807/\ ∀ (j:Nat) x,(aaH a)[j]? =some x-> ∃ u,cs[j]? =some u/\cQ w (fun _=> .lock none) x u:=by
 have⟨_,_,h⟩:=h;have hf:=(ee Tryz.underlying113 (by kernel_rfl) (by kernel_rfl) h).2;have⟨u0,e0,l0⟩:=hf 0 _ rfl;have⟨u1,e1,l1⟩:=hf 1 _ rfl;have⟨u2,e2,l2⟩:=hf 2 _ rfl;have⟨u3,e3,l3⟩:=hf 3 _ rfl;have⟨u4,e4,l4⟩:=hf 4 _ rfl;obtain⟨s,rfl,hz⟩:=l0.str abA;obtain⟨n1,rfl,_⟩:=l1.int (k:= .i64) abg;obtain⟨n2,rfl,_⟩:=l2.int (k:= .i64) abg;obtain⟨n3,rfl,_⟩:=l3.int (k:= .i64) abg;obtain⟨n4,rfl,_⟩:=l4.int (k:= .i64) abg;refine⟨⟨s,n1,n2,n3,n4⟩,by unfold maxLen at hz;simp only;omega,fun j x hx=> ?_⟩
 match j,hx with
 |0,hx=>cases hx;exact⟨_,e0,.v _ rfl⟩
 |1,hx=>cases hx;exact⟨_,e1,.v _ rfl⟩
 |2,hx=>cases hx;exact⟨_,e2,.v _ rfl⟩
 |3,hx=>cases hx;exact⟨_,e3,.v _ rfl⟩
 |4,hx=>cases hx;exact⟨_,e4,.v _ rfl⟩
def aaw (h:Jh enc w base held 241 cs): ∃ a:fe,(IB a.a/\IB a.ae/\IB a.b/\IB a.be/\IB a.pt/\IB a.ps)/\ ∀ (j:Nat) x,(xR a)[j]? =some x-> ∃ u,cs[j]? =some u/\cQ w (fun _=> .lock none) x u:=by
 have⟨_,_,h⟩:=h;have hf:=(ee Tryz.underlying241 (by kernel_rfl) (by kernel_rfl) h).2;have⟨u0,e0,l0⟩:=hf 0 _ rfl;have⟨u1,e1,l1⟩:=hf 1 _ rfl;have⟨u2,e2,l2⟩:=hf 2 _ rfl;have⟨u3,e3,l3⟩:=hf 3 _ rfl;have⟨u4,e4,l4⟩:=hf 4 _ rfl;have⟨u5,e5,l5⟩:=hf 5 _ rfl;obtain⟨n0,rfl,w0⟩:=l0.int (k:= .i64) abg;obtain⟨n1,rfl,w1⟩:=l1.int (k:= .i64) abg;obtain⟨n2,rfl,w2⟩:=l2.int (k:= .i64) abg;obtain⟨n3,rfl,w3⟩:=l3.int (k:= .i64) abg;obtain⟨n4,rfl,w4⟩:=l4.int (k:= .i64) abg;obtain⟨n5,rfl,w5⟩:=l5.int (k:= .i64) abg;refine⟨⟨n0,n1,n2,n3,n4,n5⟩,⟨ib w0,ib w1,ib w2,ib w3,ib w4,ib w5⟩,fun j x hx=> ?_⟩
 match j,hx with
 |0,hx=>cases hx;exact⟨_,e0,.v _ rfl⟩
 |1,hx=>cases hx;exact⟨_,e1,.v _ rfl⟩
 |2,hx=>cases hx;exact⟨_,e2,.v _ rfl⟩
 |3,hx=>cases hx;exact⟨_,e3,.v _ rfl⟩
 |4,hx=>cases hx;exact⟨_,e4,.v _ rfl⟩
 |5,hx=>cases hx;exact⟨_,e5,.v _ rfl⟩
def aaC (h:Jh enc w base held 141 cs): ∃ a:bX,(IB a.sec/\IB a.dir)/\ ∀ (j:Nat) x,(v7 a)[j]? =some x-> ∃ u,cs[j]? =some u/\cQ w (fun _=> .lock none) x u:=by
 have⟨_,_,h⟩:=h;have hf:=(ee Tryz.underlying141 (by kernel_rfl) (by kernel_rfl) h).2;have⟨u0,e0,l0⟩:=hf 0 _ rfl;have⟨u1,e1,l1⟩:=hf 1 _ rfl;obtain⟨n0,rfl,w0⟩:=l0.int (k:= .i64) abg;obtain⟨n1,rfl,w1⟩:=l1.int (k:= .i64) abg;refine⟨⟨n0,n1⟩,⟨ib w0,ib w1⟩,fun j x hx=> ?_⟩
 match j,hx with
 |0,hx=>cases hx;exact⟨_,e0,.v _ rfl⟩
 |1,hx=>cases hx;exact⟨_,e1,.v _ rfl⟩
def aav (h:Jh enc w base held 61 cs): ∃ a:OY,(IB a.rt/\IB a.gI/\IB a.dw)/\ ∀ (j:Nat) x,(Ew a)[j]? =some x-> ∃ u,cs[j]? =some u/\cQ w (fun _=> .lock none) x u:=by
 have⟨_,_,h⟩:=h;have hf:=(ee Tryz.underlying61 (by kernel_rfl) (by kernel_rfl) h).2;have⟨u0,e0,l0⟩:=hf 0 _ rfl;have⟨u1,e1,l1⟩:=hf 1 _ rfl;have⟨u2,e2,l2⟩:=hf 2 _ rfl;obtain⟨n0,rfl,w0⟩:=l0.int (k:= .i64) abg;obtain⟨n1,rfl,w1⟩:=l1.int (k:= .i64) abg;obtain⟨n2,rfl,w2⟩:=l2.int (k:= .i64) abg;refine⟨⟨n0,n1,n2⟩,⟨ib w0,ib w1,ib w2⟩,fun j x hx=> ?_⟩
 match j,hx with
 |0,hx=>cases hx;exact⟨_,e0,.v _ rfl⟩
 |1,hx=>cases hx;exact⟨_,e1,.v _ rfl⟩
 |2,hx=>cases hx;exact⟨_,e2,.v _ rfl⟩
def aay (h:Jh enc w base held 45 cs): ∃ a:Rec,(IB a.at_/\IB a.kd/\IB a.tr/\IB a.du/\IB a.sp/\IB a.rs)/\ ∀ (j:Nat) x,(XL a)[j]? =some x-> ∃ u,cs[j]? =some u/\cQ w (fun _=> .lock none) x u:=by
 have⟨_,_,h⟩:=h;have hf:=(ee Tryz.underlying45 (by kernel_rfl) (by kernel_rfl) h).2;have⟨u0,e0,l0⟩:=hf 0 _ rfl;have⟨u1,e1,l1⟩:=hf 1 _ rfl;have⟨u2,e2,l2⟩:=hf 2 _ rfl;have⟨u3,e3,l3⟩:=hf 3 _ rfl;have⟨u4,e4,l4⟩:=hf 4 _ rfl;have⟨u5,e5,l5⟩:=hf 5 _ rfl;obtain⟨n0,rfl,w0⟩:=l0.int (k:= .i64) abg;obtain⟨n1,rfl,w1⟩:=l1.int (k:= .i64) abg;obtain⟨n2,rfl,w2⟩:=l2.int (k:= .i64) abg;obtain⟨n3,rfl,w3⟩:=l3.int (k:= .i64) abg;obtain⟨n4,rfl,w4⟩:=l4.int (k:= .i64) abg;obtain⟨n5,rfl,w5⟩:=l5.int (k:= .i64) abg;refine⟨⟨n0,n1,n2,n3,n4,n5⟩,⟨ib w0,ib w1,ib w2,ib w3,ib w4,ib w5⟩,fun j x hx=> ?_⟩
 match j,hx with
 |0,hx=>cases hx;exact⟨_,e0,.v _ rfl⟩
 |1,hx=>cases hx;exact⟨_,e1,.v _ rfl⟩
 |2,hx=>cases hx;exact⟨_,e2,.v _ rfl⟩
 |3,hx=>cases hx;exact⟨_,e3,.v _ rfl⟩
 |4,hx=>cases hx;exact⟨_,e4,.v _ rfl⟩
 |5,hx=>cases hx;exact⟨_,e5,.v _ rfl⟩
def aaz (h:Jh enc w base held 106 cs): ∃ a:jB,(a.st.length<=9223372036854775807/\IB a.ov)/\ ∀ (j:Nat) x,(aaG a)[j]? =some x-> ∃ u,cs[j]? =some u/\cQ w (fun _=> .lock none) x u:=by
 have⟨_,_,h⟩:=h;have hf:=(ee Tryz.underlying106 (by kernel_rfl) (by kernel_rfl) h).2;have⟨u0,e0,l0⟩:=hf 0 _ rfl;have⟨u1,e1,l1⟩:=hf 1 _ rfl;have⟨st,hs,_,rs⟩:=gO Tryz.underlying104 (n:=2) (by kernel_rfl) (by omega) (fun _=>rfl) (fun cs h=>aaC h) l0;obtain⟨n1,rfl,w1⟩:=l1.int (k:= .i64) abg;refine⟨⟨st,n1⟩,⟨hs,ib w1⟩,fun j x hx=> ?_⟩
 match j,hx with
 |0,hx=>cases hx;exact⟨_,e0,rs⟩
 |1,hx=>cases hx;exact⟨_,e1,.v _ rfl⟩
def aax (h:Jh enc w base held 59 cs): ∃ a:FO,a.du.length<=9223372036854775807/\ ∀ (j:Nat) x,(ND a)[j]? =some x-> ∃ u,cs[j]? =some u/\cQ w (fun _=> .lock none) x u:=by
 have⟨_,_,h⟩:=h;have hf:=(ee Tryz.underlying59 (by kernel_rfl) (by kernel_rfl) h).2;have⟨u0,e0,l0⟩:=hf 0 _ rfl;have⟨u1,e1,l1⟩:=hf 1 _ rfl;obtain⟨n0,rfl,_⟩:=l0.int (k:= .i64) abg;have⟨du,hs,_,rs⟩:=gO Tryz.underlying57 (n:=3) (by kernel_rfl) (by omega) (fun _=>rfl) (fun cs h=>aav h) l1;refine⟨⟨n0,du⟩,hs,fun j x hx=> ?_⟩
 match j,hx with
 |0,hx=>cases hx;exact⟨_,e0,.v _ rfl⟩
 |1,hx=>cases hx;exact⟨_,e1,rs⟩
def open_casA {v:Value} {d:DataW H} {p:List MemPlace} (hv:Value.okWide abh w r b0 32 v) (h:acF enc abh w base (fun _=>true) held 32 v d p): ∃ c:dT,dp c/\ ∀ l,cm w (fun _=> .lock none) id l (dB c).den v:=by
 obtain⟨⟨cs⟩,rfl,_⟩:=okWide_struct acz hv;have⟨fuel,hf⟩:=h;have⟨xs,n,_,_,hl,hxl,hf⟩:=ab5 acz hf;have hl7:cs.length=7:=by rw[show abh.cellsOf 32=7 by kernel_rfl]at hl;simpa[Value.cells]using hl
 match cs,hl7 with
 |[c0,c1,c2,c3,c4,c5,c6],_=>
  have hx4:xs.length=4:=hxl
  have g0:Jh enc w base held 27 [c0,c1,c2,c3]:=⟨n,xs[0],by
   have this:abq enc abh w base (fun _=>true) held n 27 ((([c0,c1,c2,c3,c4,c5,c6]:List Value).drop 0).take (abh.cellsOf 27))=xs[0]? :=hf 0 _ rfl;rw[GE (by omega),show abh.cellsOf 27=4 by kernel_rfl]at this
   exact this⟩
  have g1:Jh enc w base held 28 [c4]:=⟨n,xs[1],by
   have this:abq enc abh w base (fun _=>true) held n 28 ((([c0,c1,c2,c3,c4,c5,c6]:List Value).drop 4).take (abh.cellsOf 28))=xs[1]? :=hf 1 _ rfl;rw[GE (by omega),show abh.cellsOf 28=1 by kernel_rfl]at this
   exact this⟩
  have g2:Jh enc w base held 29 [c5]:=⟨n,xs[2],by
   have this:abq enc abh w base (fun _=>true) held n 29 ((([c0,c1,c2,c3,c4,c5,c6]:List Value).drop 5).take (abh.cellsOf 29))=xs[2]? :=hf 2 _ rfl;rw[GE (by omega),show abh.cellsOf 29=1 by kernel_rfl]at this
   exact this⟩
  have g3:Jh enc w base held 30 [c6]:=⟨n,xs[3],by
   have this:abq enc abh w base (fun _=>true) held n 30 ((([c0,c1,c2,c3,c4,c5,c6]:List Value).drop 6).take (abh.cellsOf 30))=xs[3]? :=hf 3 _ rfl;rw[GE (by omega),show abh.cellsOf 30=1 by kernel_rfl]at this
   exact this⟩
  have⟨_,_,g0⟩:=g0;have hg:=(ee Tryz.underlying27 (by kernel_rfl) (by kernel_rfl) g0).2;have⟨u0,e0,l0⟩:=hg 0 _ rfl;have⟨u1,e1,l1⟩:=hg 1 _ rfl;have⟨u2,e2,l2⟩:=hg 2 _ rfl;have⟨u3,e3,l3⟩:=hg 3 _ rfl;obtain rfl:c0=u0:=by simpa using e0
  obtain rfl:c1=u1:=by simpa using e1
  obtain rfl:c2=u2:=by simpa using e2
  obtain rfl:c3=u3:=by simpa using e3
  have⟨x0,z0,q0,r0⟩:=gO acA (n:=1) (by kernel_rfl) (by omega) (fun _=>rfl) (fun cs h=>Wc h) l0;have⟨x1,z1,q1,r1⟩:=gO acA (n:=1) (by kernel_rfl) (by omega) (fun _=>rfl) (fun cs h=>Wc h) l1;have⟨x2,z2,q2,r2⟩:=gO Tryz.underlying24 (n:=5) (by kernel_rfl) (by omega) (fun _=>rfl) (fun cs h=>aaA h) l2;have⟨x3,z3,q3,r3⟩:=gO Tryz.underlying25 (n:=6) (by kernel_rfl) (by omega) (fun _=>rfl) (fun cs h=>aaw h) l3;have⟨x4,z4,q4,r4⟩:=gO Tryz.underlying28 (n:=5) (by kernel_rfl) (by omega) (fun _=>rfl) (fun cs h=>aaB h) g1;have⟨x5,z5,q5,r5⟩:=gO Tryz.underlying29 (n:=2) (by kernel_rfl) (by omega) (fun _=>rfl) (fun cs h=>aaz h) g2;have⟨x6,z6,q6,r6⟩:=gO Tryz.underlying30 (n:=2) (by kernel_rfl) (by omega) (fun _=>rfl) (fun cs h=>aax h) g3;refine⟨⟨⟨x0,x1,x2,x3⟩,x4,x5,x6⟩,⟨⟨q0,q1,fun s hs=> ?_,z0,z1,z2,z3⟩,z4,z5,z6,fun r hr=>⟨(q5 r hr).1,(q5 r hr).2.1,(q5 r hr).2.2⟩,q6⟩,fun l=>⟨_,rfl,rfl,fun i hi hi'=> ?_⟩⟩
  ·obtain⟨x,hx,rfl⟩:=acD.1 hs
   exact q2 x hx
  match i,hi' with
  |0,_=>exact⟨rfl,r0⟩
  |1,_=>exact⟨rfl,r1⟩
  |2,_=>exact⟨rfl,r2⟩
  |3,_=>exact⟨rfl,r3⟩
  |4,_=>exact⟨rfl,r4⟩
  |5,_=>exact⟨rfl,r5⟩
  |6,_=>exact⟨rfl,r6⟩
def open_recsA {v:Value} {d:DataW H} {p:List MemPlace} (hc:v.cells.toList=[v]) (h:acF enc abh w base (fun _=>true) held 33 v d p): ∃ x:List Rec,x.length<=9223372036854775807/\(∀ r∈x,-9223372036854775808<=r.at_)/\ ∀ l,cm w (fun _=> .lock none) id l (SV.den (.c (lU x))) v:=by
 have⟨fuel,hf⟩:=h;rw[hc]at hf
 have⟨x,z,q,r⟩:=gO Tryz.underlying33 (n:=6) (by kernel_rfl) (by omega) (fun _=>rfl) (fun cs h=>aay h) ⟨fuel,_,hf⟩;exact⟨x,z,fun a ha=>(q a ha).1.1,fun l=>r⟩
end
end Av
section
open Go.RowKit Av
def W.BoardErrors (v0:Value) (a1:Option Addr) (len1 cap1:Nat) (z1:List Int) (v2:Value) (a3 a4 a5 a6 a7 a8:Int) (w:World) (c0:dT) (n0:dp c0) (r0: ∀ l,cm w (fun _=> .lock none) id l (dB c0).den v0) (w1:IsRowI w a1 len1 cap1 z1) (s1: ∀ x,a1=some x->x.spot=none) (x2:List Rec) (n2:x2.length<=9223372036854775807) (b2: ∀ r∈x2,-9223372036854775808<=r.at_) (r2: ∀ l,cm w (fun _=> .lock none) id l (SV.den (.c (lU x2))) v2):
  Calls abh 10 #[v0,.slice a1 len1 cap1,v2,.int .i64 a3,.int .i64 a4,.int .i64 a5,.int .i64 a6,.int .i64 a7,.int .i64 a8] w fun e w'=>e= .returned (.bool true)/\Below w.heap.size w w':=by
 have⟨h1,l1⟩:=RT w1 s1
 refine Av.NW (Av.Ny c0 n0 (z1.take len1) (by omega) x2 n2 b2 a3 a4 a5 a6 a7 a8) w _ rfl (fun i hi hi' l=> ?_) (fun x hx=>by
  simp at hx
  rcases hx with rfl|rfl|rfl|rfl|rfl|rfl|rfl|rfl|rfl<;>rfl)
 match i,hi with
 |0,_=>exact r0 l
 |1,_=>exact h1 l
 |2,_=>exact r2 l
 |3,_=>exact .v _ rfl
 |4,_=>exact .v _ rfl
 |5,_=>exact .v _ rfl
 |6,_=>exact .v _ rfl
 |7,_=>exact .v _ rfl
 |8,_=>exact .v _ rfl
end
end Go.Proofs.YtjkeeocnekggfaaGreat
