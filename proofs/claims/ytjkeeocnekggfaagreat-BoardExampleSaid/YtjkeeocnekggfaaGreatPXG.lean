
import Derived.Test.YtjkeeocnekggfaaGreatPXF
set_option linter.unusedVariables false
set_option linter.unusedSimpArgs false
set_option maxRecDepth 4000
set_option maxHeartbeats 4000000
namespace Go.Proofs.YtjkeeocnekggfaaGreat.Av
def QW:El:=⟨bF.sl,[],bF.mp⟩
theorem ON:QW.Ok Tryz.prog:=⟨uI.eq,uI.ok,rfl,uI.mp⟩
theorem Ov {ops:Array Oper} {rest:List Oper} {l:SL} {H:SH} {R:Rg} {rest':List Oper} {l':SL} {H':SH} {R':Rg} {p:Prop} (h:Ko lH QW ops rest l H R=some ⟨rest',l',H',R',p⟩) (hp:p) (hk:WR Tryz.prog ops rest' (SS l' H') R'):WR Tryz.prog ops rest (SS l H) R:=zI gA ON h hp hk
def gW (c:dO) (at_:Int):Int:=if kq c≠0 then kq c else if at_<0\/4194304<at_ then 4 else 0
def gO (at_:Int) (tr:List (List fZ)) (t:Nat):List (List fZ):=(List.range tr.length).map fun i=>if i<t then fm at_ (tr.getD i []) (tr.getD i []).length else tr.getD i []
def kB (c:dO) (x:List Rec) (at_:Int):List (List fZ):=if gW c at_=0 then gO at_ (ig c at_ (kI c c.ms.length 0) x x.length) c.ms.length else []
theorem O8 {at_:Int} {tr:List (List fZ)}:gO at_ tr 0=tr:=by
 unfold gO;apply List.ext_getElem
 ·simp
 ·intro i h1 h2
  simp only[List.getElem_map,List.getElem_range,Nat.not_lt_zero,if_false];rw[List.getD_eq_getElem?_getD,List.getElem?_eq_getElem h2];rfl
theorem AY {at_:Int} {tr:List (List fZ)} {t i:Nat} (h:i<(gO at_ tr t).length):(gO at_ tr t)[i]=if i<t then fm at_ (tr.getD i []) (tr.getD i []).length else tr.getD i []:=by
 simp only[gO,List.getElem_map,List.getElem_range]
theorem GF {at_:Int} {tr:List (List fZ)} {t:Nat} (h:t<tr.length):(gO at_ tr t).set t (fm at_ (tr.getD t []) (tr.getD t []).length)=gO at_ tr (t+1):=by
 apply List.ext_getElem
 ·simp[gO]
 ·intro i h1 h2
  rw[AY h2,List.getElem_set];by_cases e:t=i
  ·subst e
   rw[if_pos rfl,if_pos (by omega)]
  ·rw[if_neg e,AY]
   by_cases h3:i<t
   ·rw[if_pos h3,if_pos (by omega)]
   ·rw[if_neg h3,if_neg (by omega)]
theorem vu (c:dO) (hc:fk c) (x:List Rec) (hx:x.length<=9223372036854775807) (hx2: ∀ r∈x,-9223372036854775808<=r.at_) (at_:Int):
  cd Tryz.prog 33 [gi c,.c (zE x),vI at_] [] (.cC [.c (vx (kB c x at_)),.c (xI (gW c at_))]) []:=by
 have hC:=DJ c hc;unfold gi at hC
 by_cases w1:kq c=0
 rotate_right
 ·have he:gW c at_=kq c:=if_pos w1
  have ht:kB c x at_=[]:=by unfold kB;rw[he,if_neg w1]
  rw[he,ht];unfold gi;refine PQ Tryz.func33 ?_;simp only[cu,Nat.zero_add,Nat.reduceAdd]
  repeat' (first|with_reducible (first|refine ab ?_ ?_|exact True.intro|refine DQ ?_|fail)|((with_reducible apply aC);refine an (hC) rfl ?_)|((with_reducible apply av);refine aq rfl ?_ ?_;all_goals (intro hbq;(try simp only[bq,and_true,true_and,and_false,false_and,or_true,true_or,or_false,false_or,not_true_eq_false,not_false_eq_true,Bool.true_eq_false,Bool.false_eq_true,w1] at hbq);(try (exfalso;omega))))|with_reducible (refine ay ?_)|refine RQ ?_|fail)
  all_goals rfl
 rw[w1] at hC;have w:=L1 w1;unfold gi;refine PQ Tryz.func33 ?_;simp only[cu,Nat.zero_add,Nat.reduceAdd];have wn:=w.n
 repeat' (first|with_reducible (first|refine ab ?_ ?_|exact True.intro|refine DQ ?_|assumption)|((with_reducible apply aC);refine an (hC) rfl ?_)|with_reducible (first|refine ay ?_|refine aD ?_)|((with_reducible apply av);refine aq rfl ?_ ?_;all_goals (intro hbq;(try simp only[bq] at hbq);(try (exfalso;omega))))|refine RQ ?_|(intro (hgq:(_:Bool)=true);(try simp only[bq] at hgq))|(intro (hgq:(_:Bool)=false);(try simp only[bq] at hgq))|((with_reducible apply cH);simp only[bq])|omega|(dsimp only;omega))
 ·have he:gW c at_=4:=by unfold gW;rw[if_neg (by simpa using w1),if_pos hbq]
  have ht:kB c x at_=[]:=by unfold kB;rw[he,if_neg (by decide)]
  rw[he,ht];rfl
 have he:gW c at_=0:=by unfold gW;rw[if_neg (by simpa using w1),if_neg (by omega)]
 have ht:kB c x at_=gO at_ (ig c at_ (kI c c.ms.length 0) x x.length) c.ms.length:=if_pos he;rw[he,ht];refine aH (fun y:Nat×List (List Int×Int)=>SS [sC 1 (zE x),sI 2 at_,sC 3 (pB 0),sC 9 (.c (.arr 1 0 c.ms.length c.ms.length)),sC 10 (.c (.mh 2)),sC 44 (G9 c.ms),sI 45 c.ms.length,sI 46 y.1] [some (.cells (lZ c)),Gl (kI c y.1 0),Sz y.2]) (fun y=>y.1<=c.ms.length/\Lv c y.2) (fun y=>c.ms.length-y.1) (0,[]) ?_ ⟨Nat.zero_le _,⟨zt,fun r s v hv=>by simp[bP] at hv⟩⟩ ?_
 ·
  refine WQ ?_ ?_<;>repeat' (first|with_reducible (first|refine KQ ?_|refine ab ?_ ?_|exact True.intro)|refine ax rfl ?_ ?_|exact (rfl:known _=_)|omega)
  refine aN.nrws (fun _=>rfl) (by rw[K3];simp) (aN.mp rfl (aN.nil _))
 rintro ⟨t,es⟩ ⟨ht1,hE⟩;simp only at ht1 hE⊢
 by_cases htl:t<c.ms.length
 ·have hdu:=w.du t htl
  have hsk:=w.sk t htl;have hsk2:0<=(c.ms.getD (t:Int).toNat bz).sk/\(c.ms.getD (t:Int).toNat bz).sk<c.sk.length:=hsk
  repeat' (first|with_reducible (first|refine ab ?_ ?_|exact True.intro|refine DQ ?_|assumption)|with_reducible (first|refine ay ?_|refine aD ?_)|((with_reducible apply av);refine aq rfl ?_ ?_;all_goals (intro hbq;(try simp only[bq] at hbq);(try (exfalso;omega))))|refine RQ ?_|((with_reducible apply aL);exact fun _=>⟨rfl,rfl⟩)|omega)
  refine aH (fun y:Nat×List (List Int×Int)=>SS [sC 1 (zE x),sI 2 at_,sC 3 (pB 0),sC 9 (.c (.arr 1 0 c.ms.length c.ms.length)),sC 10 (.c (.mh 2)),sI 11 t,sC 12 (pB 3),sC 44 (G9 c.ms),sI 45 c.ms.length,sI 46 t,sC 52 (PD (c.ms.getD t bz).du),sI 53 (c.ms.getD t bz).du.length,sI 54 y.1] [some (.cells (lZ c)),Gl (kI c t y.1),Sz y.2,some (.cells (Nq (c.ms.getD t bz)))]) (fun y=>y.1<=(c.ms.getD t bz).du.length/\Lv c y.2) (fun y=>(c.ms.getD t bz).du.length-y.1) (0,es) ?_ ⟨Nat.zero_le _,hE⟩ ?_
  ·
   refine WQ ?_ ?_<;>repeat' (first|with_reducible (first|refine KQ ?_|refine ab ?_ ?_|exact True.intro)|refine ax rfl ?_ ?_|refine cg.cons ?_ ?_|exact (rfl:known _=_)|with_reducible rfl|omega)
   all_goals rfl
  clear hE;rintro ⟨k,es⟩ ⟨hk,hE⟩;simp only at hk hE⊢
  by_cases hkl:k<(c.ms.getD t bz).du.length
  ·have hd:=m5 (w.d0 t htl k hkl)
   obtain ⟨g1,g2,g3,g4,g5,g6⟩:=ni hd.1;have hr:0<=(fG c t k).rt/\(fG c t k).rt<c.rt.length:=⟨g1,g2⟩;have hk1:=cJ (pb w.rte hr);have kl:=hk1.len;have k1:=hk1.ov;have k2:=hk1.two;have k3:=hk1.ov0;simp only at kl k1 k2 k3;have hla:((qd (ft c (fG c t k).rt):Nat):Int)=(ft c (fG c t k).rt).st.length-(ft c (fG c t k).rt).ov-1:=by unfold qd;omega
   have hmot:eV c.L ⟨(ft c (fG c t k).rt).st,(ft c (fG c t k).rt).ov⟩ (cX c (c.ms.getD t bz).sk).len (cX c (c.ms.getD t bz).sk).sp (cX c (c.ms.getD t bz).sk).ac (cX c (c.ms.getD t bz).sk).br=0:=by rw[← Fs w.rte hr];exact hd.2
   have hM:=Fq c.L hc.lay (ft c (fG c t k).rt).st (ft c (fG c t k).rt).ov (by omega) (by omega) (cX c (c.ms.getD t bz).sk).nm (cX c (c.ms.getD t bz).sk).len (cX c (c.ms.getD t bz).sk).sp (cX c (c.ms.getD t bz).sk).ac (cX c (c.ms.getD t bz).sk).br 0 (qd (ft c (fG c t k).rt)) hmot (by omega) (by omega);rw[rB hla,hla] at hM
   unfold Bk at hM;rw[show lC c.L ⟨(ft c (fG c t k).rt).st,(ft c (fG c t k).rt).ov⟩ (cX c (c.ms.getD t bz).sk).len (cX c (c.ms.getD t bz).sk).sp (cX c (c.ms.getD t bz).sk).ac (cX c (c.ms.getD t bz).sk).br=gF c (iW c) (fG c t k).rt (c.ms.getD t bz).sk from (FI w.rte hr _).symm] at hM;unfold bK at hM;have gD:0<=((c.ms.getD t bz).du.getD (k:Int).toNat bp).rt/\((c.ms.getD t bz).du.getD (k:Int).toNat bp).rt<c.rt.length/\0<=(c.ms.getD t bz).sk/\(c.ms.getD t bz).sk<c.sk.length:=⟨g1,g2,hsk.1,hsk.2⟩;have gR:(c.rt.getD ((c.ms.getD t bz).du.getD (k:Int).toNat bp).rt.toNat dI).st.length<=24/\0<=(c.rt.getD ((c.ms.getD t bz).du.getD (k:Int).toNat bp).rt.toNat dI).ov/\(c.rt.getD ((c.ms.getD t bz).du.getD (k:Int).toNat bp).rt.toNat dI).ov<=2/\(c.rt.getD ((c.ms.getD t bz).du.getD (k:Int).toNat bp).rt.toNat dI).ov+2<=(c.rt.getD ((c.ms.getD t bz).du.getD (k:Int).toNat bp).rt.toNat dI).st.length:=⟨kl,k3,k1,k2⟩;have hK:=hE.ok;have hrow:((kI c t k).getD (t:Int).toNat []).length=k:=by
    rw[show ((t:Int).toNat)=t from rfl,Em htl];simp
   have htl2:(kI c t k).length=c.ms.length:=od c t k
   repeat' (first|with_reducible (first|refine ab ?_ ?_|exact True.intro|refine DQ ?_|assumption)|((with_reducible apply bQ (n:=16)))|with_reducible (first|refine ay ?_|refine aD ?_)|((with_reducible apply av);refine aq rfl ?_ ?_;all_goals (intro hbq;(try simp only[bq] at hbq);(try (exfalso;omega))))|refine RQ ?_|((with_reducible apply aL);exact fun _=>⟨rfl,rfl⟩)|omega)
   refine Stop.mk ?_;refine bC (bX ?_);refine Ov rfl ?_ (fV (nG ?_))
   ·repeat' (first|exact True.intro|apply And.intro)
   rcases hk0:bP es [((c.ms.getD t bz).du.getD (k:Int).toNat bp).rt,(c.ms.getD t bz).sk] with _|v
   ·
    repeat' (first|with_reducible (first|exact BQ|exact VQ|refine ab ?_ ?_|exact True.intro|refine DQ ?_|assumption)|((with_reducible apply aC);refine an (hM) rfl ?_)|((with_reducible apply av);refine aq rfl ?_ ?_;all_goals (intro hbq;(try simp only[bq,and_true,true_and,and_false,false_and,or_true,true_or,or_false,false_or,not_true_eq_false,not_false_eq_true,Bool.true_eq_false,Bool.false_eq_true,hk0,Option.isSome_none] at hbq);(try (exfalso;omega))))|with_reducible (refine ay ?_)|refine RQ ?_|((with_reducible apply db);rfl)|((with_reducible apply zD);exact rfl)|omega)
    all_goals first|exact ⟨1,fun _=>⟨rfl,rfl⟩⟩|(with_reducible exact vn hK rfl)|rfl|skip
    refine az (((k+1,Ct es [(fG c t k).rt,(c.ms.getD t bz).sk] (gF c (iW c) (fG c t k).rt (c.ms.getD t bz).sk)):Nat×List (List Int×Int))) ?_ (⟨by simp only;omega,M3 hE hk0⟩) (by (try dsimp only);omega);refine WQ ?_ ?_<;>repeat' (first|with_reducible (first|refine KQ ?_|refine ab ?_ ?_|exact True.intro)|refine ax rfl ?_ ?_|refine cg.cons ?_ ?_|exact (rfl:known _=_)|omega)
    ·have hl2:(bP (Ct es [((c.ms.getD t bz).du.getD (k:Int).toNat bp).rt,(c.ms.getD t bz).sk] (gF c (iW c) (fG c t k).rt (c.ms.getD t bz).sk)) [((c.ms.getD t bz).du.getD (k:Int).toNat bp).rt,(c.ms.getD t bz).sk]).getD 0=gF c (iW c) (fG c t k).rt (c.ms.getD t bz).sk:=by rw[gS hk0,if_pos rfl];rfl
     rw[hl2,show (kI c t k).getD (t:Int).toNat []=_ from Em htl];exact (Cp htl).symm
    ·rfl
   ·have hv:=hE.at_ _ _ _ hk0
    repeat' (first|with_reducible (first|exact BQ|exact VQ|refine ab ?_ ?_|exact True.intro|refine DQ ?_|assumption)|((with_reducible apply av);refine aq rfl ?_ ?_;all_goals (intro hbq;(try simp only[bq,and_true,true_and,and_false,false_and,or_true,true_or,or_false,false_or,not_true_eq_false,not_false_eq_true,Bool.true_eq_false,Bool.false_eq_true,hk0,Option.isSome_some] at hbq);(try (exfalso;omega))))|with_reducible (refine ay ?_)|refine RQ ?_|((with_reducible apply db);rfl)|((with_reducible apply zD);exact rfl)|omega)
    all_goals first|exact ⟨1,fun _=>⟨rfl,rfl⟩⟩|rfl|skip
    refine az (((k+1,es):Nat×List (List Int×Int))) ?_ (⟨by simp only;omega,hE⟩) (by (try dsimp only);omega);refine WQ ?_ ?_<;>repeat' (first|with_reducible (first|refine KQ ?_|refine ab ?_ ?_|exact True.intro)|refine ax rfl ?_ ?_|refine cg.cons ?_ ?_|exact (rfl:known _=_)|with_reducible rfl|omega)
    rw[hk0,Option.getD_some,hv,show (kI c t k).getD (t:Int).toNat []=_ from Em htl];exact (Cp htl).symm
  ·have hke:k=(c.ms.getD t bz).du.length:=by omega
   subst hke;rw[K2 htl]
   repeat' (first|with_reducible (first|refine ab ?_ ?_|exact True.intro|refine DQ ?_|fail)|with_reducible (refine ay ?_)|((with_reducible apply av);refine aq rfl ?_ ?_;all_goals (intro hbq;(try simp only[bq] at hbq);(try (exfalso;omega))))|refine RQ ?_|omega)
   refine az (((t+1,es):Nat×List (List Int×Int))) ?_ (⟨by simp only;omega,hE⟩) (by (try dsimp only);omega);refine WQ ?_ ?_<;>repeat' (first|with_reducible (first|refine KQ ?_|refine ab ?_ ?_|exact True.intro)|refine ax rfl ?_ ?_|exact (rfl:known _=_)|with_reducible rfl|omega)
   all_goals skip
 have hte:t=c.ms.length:=by omega
 subst hte;have hB:=K1 hc w (at_:=at_) (by omega);have hlen:=od c c.ms.length 0;have hrows: ∀ i,((kI c c.ms.length 0).getD i []).length<=12:=fun i=>by
  by_cases hi:i<c.ms.length
  ·have e:(kI c c.ms.length 0).getD i []=(List.range (c.ms.getD i bz).du.length).map (uo c i):=by
    unfold kI;rw[bW hi,if_pos hi]
   rw[e,List.length_map,List.length_range];exact (w.du i hi).2
  ·rw[List.getD_eq_getElem?_getD,List.getElem?_eq_none (by omega)]
   exact Nat.zero_le _
 have hO:=DF c hc w.rte (kI c c.ms.length 0) ⟨fun i k hi hk=>(hB i k hi hk).rt⟩ (by omega) (fun i=>Nat.le_trans (hrows i) (by decide)) x hx at_;rw[hlen] at hO
 have hB2:=JV hB hx2 x.length;have hO2:=zq ⟨fun i k hi hk=>(hB i k hi hk).rt⟩ at_ x x.length;clear hE;have hdu1: ∀ i,i<c.ms.length->1<=((ig c at_ (kI c c.ms.length 0) x x.length).getD i []).length:=fun i hi=>by
  have e:(kI c c.ms.length 0).getD i []=(List.range (c.ms.getD i bz).du.length).map (uo c i):=by
   unfold kI;rw[bW hi,if_pos hi]
  rw[hO2.2.2 i,e,List.length_map,List.length_range];exact (w.du i hi).1
 have hrows2: ∀ i,((ig c at_ (kI c c.ms.length 0) x x.length).getD i []).length<=12:=fun i=>by rw[hO2.2.2 i];exact hrows i
 have hlen2:(ig c at_ (kI c c.ms.length 0) x x.length).length=c.ms.length:=hO2.2.1.trans hlen;clear hrows hO2 hB;generalize ig c at_ (kI c c.ms.length 0) x x.length=tr at*
 unfold gi at hO
 repeat' (first|with_reducible (first|refine ab ?_ ?_|exact True.intro|refine DQ ?_|fail)|((with_reducible apply aC);refine iq [1] (hO) rfl rfl rfl rfl rfl rfl rfl rfl rfl rfl rfl rfl rfl ?_)|with_reducible (first|refine ay ?_|refine aD ?_)|((with_reducible apply av);refine aq rfl ?_ ?_;all_goals (intro hbq;(try simp only[bq] at hbq);(try (exfalso;omega))))|refine RQ ?_|fail)
 refine aH (fun t:Nat=>SS [sI 2 at_,sC 9 (.c (.arr 1 0 c.ms.length c.ms.length)),sC 134 (.c (.arr 1 0 c.ms.length c.ms.length)),sI 135 c.ms.length,sI 136 t] [some (.cells (lZ c)),Gl (gO at_ tr t)]) (fun t=>t<=c.ms.length) (fun t=>c.ms.length-t) 0 ?_ (by omega) ?_
 ·
  refine WQ ?_ ?_<;>repeat' (first|with_reducible (first|refine KQ ?_|refine ab ?_ ?_|exact True.intro)|refine ax rfl ?_ ?_|exact (rfl:known _=_)|omega)
  exact O8.symm
 intro t ht1;have hfl:(gO at_ tr t).length=c.ms.length:=by unfold gO;simp[hlen2]
 by_cases htl:t<c.ms.length
 ·have hft:(gO at_ tr t).getD (t:Int).toNat []=tr.getD t []:=by
   show (gO at_ tr t).getD t []=_;unfold gO;rw[bW (by omega),if_neg (by omega)]
  have hr1:=hdu1 t htl;have hr2:=hrows2 t;have hrB: ∀ k,k<(tr.getD t []).length->N9 c at_ ((tr.getD t []).getD k cq):=fun k hk=>hB2 t k (by omega) hk
  have hstep: ∀ l,l=fm at_ (tr.getD t []) (tr.getD t []).length->(gO at_ tr t).set t l=gO at_ tr (t+1):=fun l hl=>by rw[hl];exact GF (by omega)
  have hne:(gO at_ tr t).getD (t:Int).toNat []≠[]:=by
   rw[hft];intro e;rw[e] at hr1;exact absurd hr1 (by decide)
  repeat' (first|((with_reducible apply bQ (n:=26)))|with_reducible (refine ay ?_))
  refine Stop.mk ?_;refine bC (bX ?_);refine eE rfl ?_ (fV ?_)
  ·repeat' (exact True.intro)
  refine D1 _ (Ex (z:=10) (F:=pV) (V:=ox) (M:=va) (d:=cq) (ls:=gO at_ tr t) (n:=2) 1 (t:Int) rfl (by omega) (by omega) hne (fun _=>rfl) rfl rfl) ?_;rintro ⟨cap,hcap⟩;simp only[hft] at hcap⊢
  generalize tr.getD t []=r at*;simp only[List.set_cons_zero,List.set_cons_succ,List.cons_append,List.nil_append]
  repeat' (first|with_reducible (first|refine ab ?_ ?_|exact True.intro|refine DQ ?_|assumption)|with_reducible (first|refine ay ?_|refine aD ?_)|((with_reducible apply av);refine aq rfl ?_ ?_;all_goals (intro hbq;(try simp only[bq] at hbq);(try (exfalso;omega))))|refine RQ ?_|omega)
  refine aH (fun k:Nat=>SS [sI 2 at_,sC 9 (.c (.arr 1 0 c.ms.length c.ms.length)),sC 23 (.c (.arr 2 0 r.length cap)),sC 134 (.c (.arr 1 0 c.ms.length c.ms.length)),sI 135 c.ms.length,sI 136 t,sI 141 r.length,sI 142 k] [some (.cells (lZ c)),some (.rws 10 pV ox va cq (gO at_ tr t) (some ((t:Int),.c (.arr 2 0 r.length cap)))),some (.elo 10 pV ox va cq (fm at_ r k) ((cap-r.length)*10))]) (fun k=>k<=r.length) (fun k=>r.length-k) 0 ?_ (by omega) ?_
  ·
   refine WQ ?_ ?_<;>repeat' (first|with_reducible (first|refine KQ ?_|refine ab ?_ ?_|exact True.intro)|refine ax rfl ?_ ?_|exact (rfl:known _=_)|omega)
   exact aN.rwsH rfl rfl rfl (aN.elo rfl (aN.nil _))
  intro k hk;by_cases hkl:k<r.length
  ·have hC:=E4 (c:=c) (at_:=at_) (l:=r) (by omega) hrB k (by omega)
   have hE:=hrB k hkl;rw[← uP at_ r k k (Nat.le_refl _) (by omega)] at hE
   have hll:=kS at_ r k;have hnx:fm at_ r (k+1)=(fm at_ r k).set k (dq at_ k ((fm at_ r k).getD (k-1) cq).fa ((fm at_ r k).getD k cq)):=rfl;generalize fm at_ r k=l at*
   have hE2:N9 c at_ (l.getD (k:Int).toNat cq):=hE;obtain ⟨e1,e2,e3,e4,e5,e6,e7,e8⟩:=hE2;have hkl2:k<l.length:=by omega
   by_cases hk0:k=0
   ·subst hk0
    repeat' (first|with_reducible (first|refine ab ?_ ?_|exact True.intro|refine DQ ?_|assumption)|with_reducible (first|refine ay ?_|refine aD ?_)|((with_reducible apply av);refine aq rfl ?_ ?_;all_goals (intro hbq;(try simp only[bq] at hbq);(try (exfalso;omega))))|refine RQ ?_|((with_reducible apply aL);exact fun _=>⟨rfl,rfl⟩)|((with_reducible apply bh);kernel_rfl)|omega)
    all_goals first|rfl|omega|(simp only[Int.toNat_natCast,List.set_set,List.length_set];omega)|(simp only[Int.toNat_natCast,List.set_set,c9 hkl2,if_true,List.length_set];simp only[Int.toNat_natCast] at*;omega)|skip
    ·
     refine az (0+1) ?_ (by omega) (by omega);refine WQ ?_ ?_<;>repeat' (first|with_reducible (first|refine KQ ?_|refine ab ?_ ?_|exact True.intro)|refine ax rfl ?_ ?_|exact (rfl:known _=_)|omega)
     refine aN.rwsH rfl rfl rfl (aN.elo ?_ (aN.nil _));rw[hnx];clear hC hE e1 e2 e3 e4 e5 e6 e7 e8 hnx;simp only[Int.toNat_natCast,List.set_set,c9 hkl2,if_true] at*
     generalize hE0:l.getD 0 cq=E at*;obtain ⟨a1,a2,a3,a4,a5,a6,a7,a8,g,h⟩:=E;simp only at*
     first
      |(subst_vars;simp[dq];done)
      |(simp[dq, *];done)
      |(rw[← g7 (d:=cq) hkl2];rw[hE0];simp[dq, *];done)
    ·
     refine az (0+1) ?_ (by omega) (by omega);refine WQ ?_ ?_<;>repeat' (first|with_reducible (first|refine KQ ?_|refine ab ?_ ?_|exact True.intro)|refine ax rfl ?_ ?_|exact (rfl:known _=_)|omega)
     refine aN.rwsH rfl rfl rfl (aN.elo ?_ (aN.nil _));rw[hnx];clear hC hE e1 e2 e3 e4 e5 e6 e7 e8 hnx;simp only[Int.toNat_natCast,List.set_set,c9 hkl2,if_true] at*
     generalize hE0:l.getD 0 cq=E at*;obtain ⟨a1,a2,a3,a4,a5,a6,a7,a8,g,h⟩:=E;simp only at*
     first
      |(subst_vars;simp[dq];done)
      |(simp[dq, *];done)
      |(rw[← g7 (d:=cq) hkl2];rw[hE0];simp[dq, *];done)
    ·
     refine az (0+1) ?_ (by omega) (by omega);refine WQ ?_ ?_<;>repeat' (first|with_reducible (first|refine KQ ?_|refine ab ?_ ?_|exact True.intro)|refine ax rfl ?_ ?_|exact (rfl:known _=_)|omega)
     refine aN.rwsH rfl rfl rfl (aN.elo ?_ (aN.nil _));rw[hnx];clear hC hE e1 e2 e3 e4 e5 e6 e7 e8 hnx;simp only[Int.toNat_natCast,List.set_set,c9 hkl2,if_true] at*
     generalize hE0:l.getD 0 cq=E at*;obtain ⟨a1,a2,a3,a4,a5,a6,a7,a8,g,h⟩:=E;simp only at*
     first
      |(subst_vars;simp[dq];done)
      |(simp[dq, *];done)
      |(rw[← g7 (d:=cq) hkl2];rw[hE0];simp[dq, *];done)
    ·
     refine az (0+1) ?_ (by omega) (by omega);refine WQ ?_ ?_<;>repeat' (first|with_reducible (first|refine KQ ?_|refine ab ?_ ?_|exact True.intro)|refine ax rfl ?_ ?_|exact (rfl:known _=_)|omega)
     refine aN.rwsH rfl rfl rfl (aN.elo ?_ (aN.nil _));rw[hnx];clear hC hE e1 e2 e3 e4 e5 e6 e7 e8 hnx;simp only[Int.toNat_natCast,List.set_set,c9 hkl2,if_true] at*
     generalize hE0:l.getD 0 cq=E at*;obtain ⟨a1,a2,a3,a4,a5,a6,a7,a8,g,h⟩:=E;simp only at*
     first
      |(subst_vars;simp[dq];done)
      |(simp[dq, *];done)
      |(rw[← g7 (d:=cq) hkl2];rw[hE0];simp[dq, *];done)
   ·have hP:=hC (k-1) (by omega)
    have e9:((k:Int)-1).toNat=k-1:=by omega
    rw[← e9] at hP;have p1:=hP.fa;have e10: ¬ k-1=k:=by omega
    repeat' (first|with_reducible (first|refine ab ?_ ?_|exact True.intro|refine DQ ?_|assumption)|with_reducible (first|refine ay ?_|refine aD ?_)|((with_reducible apply av);refine aq rfl ?_ ?_;all_goals (intro hbq;(try simp only[bq] at hbq);(try (exfalso;omega))))|refine RQ ?_|((with_reducible apply aL);exact fun _=>⟨rfl,rfl⟩)|((with_reducible apply bh);kernel_rfl)|omega)
    all_goals first|rfl|omega|(simp only[Int.toNat_natCast,List.set_set,List.length_set];omega)|(simp only[Int.toNat_natCast,List.set_set,c9 hkl2,if_true,List.length_set,e9,e10,if_false] at*;omega)|skip
    ·
     refine az (k+1) ?_ (by omega) (by omega);refine WQ ?_ ?_<;>repeat' (first|with_reducible (first|refine KQ ?_|refine ab ?_ ?_|exact True.intro)|refine ax rfl ?_ ?_|exact (rfl:known _=_)|omega)
     refine aN.rwsH rfl rfl rfl (aN.elo ?_ (aN.nil _));rw[hnx];clear hC hE e1 e2 e3 e4 e5 e6 e7 e8 hnx;simp only[Int.toNat_natCast,List.set_set,c9 hkl2,if_true,e9,e10,if_false] at*
     have hkp:0<k:=by omega
     generalize (l.getD (k-1) cq).fa=pa at*;generalize hE0:l.getD k cq=E at*;obtain ⟨a1,a2,a3,a4,a5,a6,a7,a8,g,h⟩:=E;simp only at*
     first
      |(subst_vars;simp[dq];done)
      |(simp[dq, *];done)
      |(rw[← g7 (d:=cq) hkl2];rw[hE0];simp[dq, *];done)
    ·
     refine az (k+1) ?_ (by omega) (by omega);refine WQ ?_ ?_<;>repeat' (first|with_reducible (first|refine KQ ?_|refine ab ?_ ?_|exact True.intro)|refine ax rfl ?_ ?_|exact (rfl:known _=_)|omega)
     refine aN.rwsH rfl rfl rfl (aN.elo ?_ (aN.nil _));rw[hnx];clear hC hE e1 e2 e3 e4 e5 e6 e7 e8 hnx;simp only[Int.toNat_natCast,List.set_set,c9 hkl2,if_true,e9,e10,if_false] at*
     have hkp:0<k:=by omega
     generalize (l.getD (k-1) cq).fa=pa at*;generalize hE0:l.getD k cq=E at*;obtain ⟨a1,a2,a3,a4,a5,a6,a7,a8,g,h⟩:=E;simp only at*
     first
      |(subst_vars;simp[dq];done)
      |(simp[dq, *];done)
      |(rw[← g7 (d:=cq) hkl2];rw[hE0];simp[dq, *];done)
    ·
     refine az (k+1) ?_ (by omega) (by omega);refine WQ ?_ ?_<;>repeat' (first|with_reducible (first|refine KQ ?_|refine ab ?_ ?_|exact True.intro)|refine ax rfl ?_ ?_|exact (rfl:known _=_)|omega)
     refine aN.rwsH rfl rfl rfl (aN.elo ?_ (aN.nil _));rw[hnx];clear hC hE e1 e2 e3 e4 e5 e6 e7 e8 hnx;simp only[Int.toNat_natCast,List.set_set,c9 hkl2,if_true,e9,e10,if_false] at*
     have hkp:0<k:=by omega
     generalize (l.getD (k-1) cq).fa=pa at*;generalize hE0:l.getD k cq=E at*;obtain ⟨a1,a2,a3,a4,a5,a6,a7,a8,g,h⟩:=E;simp only at*
     first
      |(subst_vars;simp[dq];done)
      |(simp[dq, *];done)
      |(rw[← g7 (d:=cq) hkl2];rw[hE0];simp[dq, *];done)
    ·
     refine az (k+1) ?_ (by omega) (by omega);refine WQ ?_ ?_<;>repeat' (first|with_reducible (first|refine KQ ?_|refine ab ?_ ?_|exact True.intro)|refine ax rfl ?_ ?_|exact (rfl:known _=_)|omega)
     refine aN.rwsH rfl rfl rfl (aN.elo ?_ (aN.nil _));rw[hnx];clear hC hE e1 e2 e3 e4 e5 e6 e7 e8 hnx;simp only[Int.toNat_natCast,List.set_set,c9 hkl2,if_true,e9,e10,if_false] at*
     have hkp:0<k:=by omega
     generalize (l.getD (k-1) cq).fa=pa at*;generalize hE0:l.getD k cq=E at*;obtain ⟨a1,a2,a3,a4,a5,a6,a7,a8,g,h⟩:=E;simp only at*
     first
      |(subst_vars;simp[dq];done)
      |(simp[dq, *];done)
      |(rw[← g7 (d:=cq) hkl2];rw[hE0];simp[dq, *];done)
  ·have hke:k=r.length:=by omega
   subst hke;have hll:=kS at_ r r.length;have hst:=hstep _ rfl;generalize fm at_ r r.length=l at*
   repeat' (first|with_reducible (first|refine ab ?_ ?_|exact True.intro|refine DQ ?_|fail)|with_reducible (refine ay ?_)|((with_reducible apply av);refine aq rfl ?_ ?_;all_goals (intro hbq;(try simp only[bq] at hbq);(try (exfalso;omega))))|refine RQ ?_|omega)
   refine az (t+1) (pF (z:=10) (F:=pV) (V:=ox) (M:=va) (d:=cq) (ls:=gO at_ tr t) 2 1 (by decide) rfl rfl (by omega) (by omega) (by rw[hll]) (by rw[hll];exact hcap) (by rw[hll]) (fun _=>rfl) rfl rfl ?_) (by omega) (by omega);simp only[List.set_cons_zero,List.set_cons_succ];refine WQ ?_ ?_<;>repeat' (first|with_reducible (first|refine KQ ?_|refine ab ?_ ?_|exact True.intro)|refine ax rfl ?_ ?_|exact (rfl:known _=_)|omega)
   exact hst
 have hte:t=c.ms.length:=by omega
 subst hte;clear hO;refine ay (bC (bX ?_));refine eE rfl ?_ (fV (nG ?_))
 ·trivial
 refine ay (aq rfl ?_ ?_)
 ·intro hbq
  simp only[bq] at hbq;omega
 intro _;refine ua (rI (pw (kL rfl ?_)));refine jR _ (IA (z:=10) (F:=pV) (V:=ox) (M:=va) (d:=cq) (ls:=gO at_ tr c.ms.length) 1 rfl rfl rfl (di.refl (Nat.zero_le _))) ?_;simp only[List.set_cons_zero,List.set_cons_succ]
 repeat' (first|with_reducible (first|refine ab ?_ ?_|exact True.intro|refine DQ ?_|assumption)|with_reducible (refine ay ?_)|refine RQ ?_|(intro _;exact rfl)|((with_reducible apply db);rfl))
 all_goals rfl
theorem FB {c:dO} {at_:Int} (h:gW c at_=0):kq c=0/\0<=at_/\at_<=4194304:=by
 unfold gW at h;split at h
 ·rename_i h1;exact absurd h h1
 ·rename_i h1
  split at h
  ·cases h
  ·exact ⟨Classical.not_not.1 h1,by omega,by omega⟩
structure R4 (c:dO) (tr:List (List fZ)):Prop where
 n:tr.length=c.ms.length
 n10:tr.length<=10
 row: ∀ i,i<tr.length->(tr.getD i []).length=(c.ms.getD i bz).du.length
 r12: ∀ i,(tr.getD i []).length<=12
 du: ∀ i k,i<tr.length->k<(tr.getD i []).length->RN c 6000000 ((tr.getD i []).getD k cq)
theorem NX {c:dO} (hc:fk c) {x:List Rec} (hx2: ∀ r∈x,-9223372036854775808<=r.at_) {at_:Int} (h:gW c at_=0):R4 c (kB c x at_):=by
 obtain ⟨h1,h2,h3⟩:=FB h;have w:=L1 h1;have hB:=JV (K1 hc w h2) hx2 x.length;have hO:=zq (c:=c) (tr:=kI c c.ms.length 0) ⟨fun i k hi hk=>(K1 hc w h2 i k hi hk).rt⟩ at_ x x.length;have e0:kB c x at_=gO at_ (ig c at_ (kI c c.ms.length 0) x x.length) c.ms.length:=if_pos h;rw[e0];have hl:(ig c at_ (kI c c.ms.length 0) x x.length).length=c.ms.length:=hO.2.1.trans (od ..);have hrow: ∀ i,i<c.ms.length->((ig c at_ (kI c c.ms.length 0) x x.length).getD i []).length=(c.ms.getD i bz).du.length:=fun i hi=>by
  rw[hO.2.2 i];unfold kI;rw[bW hi,if_pos hi];simp
 generalize ig c at_ (kI c c.ms.length 0) x x.length=tr at*;have hg: ∀ i,i<c.ms.length->(gO at_ tr c.ms.length).getD i []=fm at_ (tr.getD i []) (tr.getD i []).length:=fun i hi=>by
  unfold gO;rw[bW (by omega),if_pos hi]
 have hfl:(gO at_ tr c.ms.length).length=c.ms.length:=by unfold gO;simp[hl]
 have hr2: ∀ i,i<c.ms.length->((gO at_ tr c.ms.length).getD i []).length=(c.ms.getD i bz).du.length:=fun i hi=>by rw[hg i hi,kS,hrow i hi]
 refine ⟨hfl,by rw[hfl];exact w.n,fun i hi=>hr2 i (by omega),fun i=> ?_,fun i k hi hk=> ?_⟩
 ·by_cases hi:i<c.ms.length
  ·rw[hr2 i hi];exact (w.du i hi).2
  ·rw[List.getD_eq_getElem?_getD,List.getElem?_eq_none (by omega)]
   exact Nat.zero_le _
 ·rw[hfl] at hi
  have hd:=w.du i hi;rw[hr2 i hi] at hk
  rw[hg i hi];have:=E4 (c:=c) (at_:=at_) (l:=tr.getD i []) ⟨h2,h3⟩ (fun k hk=>hB i k (by omega) hk) (tr.getD i []).length (Nat.le_refl _) k (by rw[hrow i hi];exact hk);obtain ⟨a1,a2,a3,a4,a5,a6,a7,a8⟩:=this;exact ⟨a1,a2,a3,a4,a5,a6,⟨a7.1,by omega⟩,⟨a8.1,by omega⟩⟩
def oS (d:fZ):Eo:=⟨d.fd,d.fa,d.gone,d.there_⟩
def kU (tr:List (List fZ)) (t k:Nat):List (List Eo):=(List.range tr.length).map fun i=>if i<t then (tr.getD i []).map oS else if i=t then ((tr.getD i []).take k).map oS else []
theorem jI (tr:List (List fZ)) (t k:Nat):(kU tr t k).length=tr.length:=by unfold kU;simp
theorem kV {tr:List (List fZ)} {t k i:Nat} (h:i<(kU tr t k).length):(kU tr t k)[i]=if i<t then (tr.getD i []).map oS else if i=t then ((tr.getD i []).take k).map oS else []:=by
 simp only[kU,List.getElem_map,List.getElem_range]
theorem E7 {tr:List (List fZ)} {t k:Nat} (h:t<tr.length):(kU tr t k).getD t []=((tr.getD t []).take k).map oS:=by
 unfold kU;rw[bW h,if_neg (by omega),if_pos rfl]
theorem GJ (tr:List (List fZ)):kU tr 0 0=List.replicate tr.length []:=by
 apply List.ext_getElem
 ·simp[kU]
 ·intro i h1 h2
  rw[kV,if_neg (by omega),List.getElem_replicate];split<;>simp
theorem GH {tr:List (List fZ)} {t:Nat}:kU tr t (tr.getD t []).length=kU tr (t+1) 0:=by
 apply List.ext_getElem
 ·rw[jI,jI]
 ·intro i h1 h2
  rw[kV,kV];by_cases h:i<t
  ·rw[if_pos h,if_pos (by omega)]
  ·by_cases e:i=t
   ·subst e
    rw[if_neg (by omega),if_pos rfl,if_pos (by omega),List.take_length]
   ·rw[if_neg h,if_neg e,if_neg (by omega)]
    split<;>simp
theorem GI {tr:List (List fZ)} {t k:Nat} (ht:t<tr.length) (hk:k<(tr.getD t []).length):(kU tr t k).set t (((tr.getD t []).take k).map oS++[oS ((tr.getD t []).getD k cq)])=kU tr t (k+1):=by
 apply List.ext_getElem
 ·rw[List.length_set,jI,jI]
 ·intro i h1 h2
  rw[kV h2,List.getElem_set];by_cases e:t=i
  ·subst e
   rw[if_pos rfl,if_neg (by omega),if_pos rfl,List.take_succ_eq_append_getElem hk,List.map_append];congr 1;have:(tr.getD t []).getD k cq=(tr.getD t [])[k]:=lX _ _ hk;rw[this];rfl
  ·rw[if_neg e,kV]
   by_cases h3:i<t
   ·rw[if_pos h3,if_pos h3]
   ·rw[if_neg h3,if_neg h3,if_neg (fun k=>e k.symm),if_neg (fun k=>e k.symm)]
abbrev nA (l:List (List Eo)):SC:= .row 1 (Kj 4 Jn) (PI 4 Jn No Mb) [] l
abbrev QM (l:List (List Eo)):Option SB:=some (.rws 4 Jn No Rb Mb l none)
theorem oI (c:dO) (hc:fk c) (x:List Rec) (hx:x.length<=9223372036854775807) (hx2: ∀ r∈x,-9223372036854775808<=r.at_) (at_:Int):
  cd Tryz.prog 13 [gi c,.c (zE x),vI at_] [] (.cC [.c (nA (if gW c at_=0 then (kB c x at_).map fun l=>l.map oS else [])),.c (xI (gW c at_))]) []:=by
 have hP:=vu c hc x hx hx2 at_;unfold gi at hP⊢
 by_cases w1:gW c at_=0
 rotate_right
 ·rw[if_neg w1]
  refine PQ Tryz.func13 ?_;simp only[cu,Nat.zero_add,Nat.reduceAdd]
  repeat' (first|with_reducible (first|refine ab ?_ ?_|exact True.intro|refine DQ ?_|fail)|((with_reducible apply aC);refine an (hP) rfl ?_)|((with_reducible apply av);refine aq rfl ?_ ?_;all_goals (intro hbq;(try simp only[bq,and_true,true_and,and_false,false_and,or_true,true_or,or_false,false_or,not_true_eq_false,not_false_eq_true,Bool.true_eq_false,Bool.false_eq_true,w1] at hbq);(try (exfalso;omega))))|with_reducible (refine ay ?_)|refine RQ ?_|fail)
  all_goals rfl
 rw[if_pos w1,w1];rw[w1] at hP;have hI:=NX hc hx2 w1;generalize kB c x at_=tr at*;have i1:=hI.n10;have i2:=hI.r12;refine PQ Tryz.func13 ?_;simp only[cu,Nat.zero_add,Nat.reduceAdd]
 repeat' (first|with_reducible (first|refine ab ?_ ?_|exact True.intro|refine DQ ?_|fail)|((with_reducible apply aC);refine an (hP) rfl ?_)|with_reducible (first|refine ay ?_|refine aD ?_)|((with_reducible apply av);refine aq rfl ?_ ?_;all_goals (intro hbq;(try simp only[bq] at hbq);(try (exfalso;omega))))|refine RQ ?_|omega|(dsimp only;omega))
 refine aH (fun t:Nat=>SS [sC 8 (vx tr),sC 10 (.c (.arr 1 0 tr.length tr.length)),sC 28 (vx tr),sI 29 tr.length,sI 30 t] [none,QM (kU tr t 0)]) (fun t=>t<=tr.length) (fun t=>tr.length-t) 0 ?_ (by omega) ?_
 ·
  refine WQ ?_ ?_<;>repeat' (first|with_reducible (first|refine KQ ?_|refine ab ?_ ?_|exact True.intro)|refine ax rfl ?_ ?_|exact (rfl:known _=_)|omega)
  refine aN.nrws (fun _=>rfl) ?_ (aN.nil _);rw[GJ];simp
 intro t ht;have hfl:=jI tr t;by_cases htl:t<tr.length
 ·have i3:=i2 t
  repeat' (first|with_reducible (first|refine ab ?_ ?_|exact True.intro|refine DQ ?_|assumption)|with_reducible (first|refine ay ?_|refine aD ?_)|((with_reducible apply av);refine aq rfl ?_ ?_;all_goals (intro hbq;(try simp only[bq] at hbq);(try (exfalso;omega))))|refine RQ ?_|((with_reducible apply aL);exact fun _=>⟨rfl,rfl⟩)|omega)
  refine aH (fun k:Nat=>SS [sC 8 (vx tr),sC 10 (.c (.arr 1 0 tr.length tr.length)),sI 11 t,sC 28 (vx tr),sI 29 tr.length,sI 30 t,sC 35 (Ro (tr.getD t [])),sI 36 (tr.getD t []).length,sI 37 k] [none,QM (kU tr t k)]) (fun k=>k<=(tr.getD t []).length) (fun k=>(tr.getD t []).length-k) 0 ?_ (by omega) ?_
  ·
   refine WQ ?_ ?_<;>repeat' (first|with_reducible (first|refine KQ ?_|refine ab ?_ ?_|exact True.intro)|refine ax rfl ?_ ?_|exact (rfl:known _=_)|with_reducible rfl|omega)
   all_goals rfl
  intro k hk;have hfk:=hfl k;by_cases hkl:k<(tr.getD t []).length
  ·have hrow:((kU tr t k).getD (t:Int).toNat []).length=k:=by
    show ((kU tr t k).getD t []).length=k;rw[E7 htl,List.length_map,List.length_take];omega
   have hst:=GI htl hkl
   repeat' (first|with_reducible (first|refine ab ?_ ?_|exact True.intro|refine DQ ?_|assumption)|with_reducible (first|refine ay ?_|refine aD ?_)|((with_reducible apply av);refine aq rfl ?_ ?_;all_goals (intro hbq;(try simp only[bq] at hbq);(try (exfalso;omega))))|refine RQ ?_|((with_reducible apply aL);exact fun _=>⟨rfl,rfl⟩)|((with_reducible apply bh);kernel_rfl)|((with_reducible apply db);rfl)|((with_reducible apply zD);exact rfl)|omega)
   refine az (k+1) ?_ ((by omega)) (by (try dsimp only);omega);refine WQ ?_ ?_<;>repeat' (first|with_reducible (first|refine KQ ?_|refine ab ?_ ?_|exact True.intro)|refine ax rfl ?_ ?_|exact (rfl:known _=_)|omega)
   rw[show (kU tr t k).getD (t:Int).toNat []=_ from E7 htl];exact hst.symm
  ·have hke:k=(tr.getD t []).length:=by omega
   subst hke;rw[GH]
   repeat' (first|with_reducible (first|refine ab ?_ ?_|exact True.intro|refine DQ ?_|fail)|with_reducible (refine ay ?_)|((with_reducible apply av);refine aq rfl ?_ ?_;all_goals (intro hbq;(try simp only[bq] at hbq);(try (exfalso;omega))))|refine RQ ?_|omega)
   refine az (t+1) ?_ ((by omega)) (by (try dsimp only);omega);refine WQ ?_ ?_<;>repeat' (first|with_reducible (first|refine KQ ?_|refine ab ?_ ?_|exact True.intro)|refine ax rfl ?_ ?_|exact (rfl:known _=_)|with_reducible rfl|omega)
   all_goals skip
 have hte:t=tr.length:=by omega
 subst hte;refine ay (bC (bX ?_));refine eE rfl ?_ (fV (nG ?_))
 ·trivial
 refine ay (aq rfl ?_ ?_)
 ·intro hbq
  simp only[bq] at hbq;omega
 intro _;refine ua (rI (pw (kL rfl ?_)));refine jR _ (IA (z:=4) (F:=Jn) (V:=No) (M:=Rb) (d:=Mb) (ls:=kU tr tr.length 0) 1 rfl rfl rfl (di.refl (Nat.zero_le _))) ?_;simp only[List.set_cons_zero,List.set_cons_succ];have hend:kU tr tr.length 0=tr.map fun l=>l.map oS:=by
  apply List.ext_getElem
  ·rw[jI,List.length_map]
  ·intro i h1 h2
   rw[jI] at h1;rw[kV,if_pos h1,List.getElem_map,lX _ _ h1]
 rw[hend]
 repeat' (first|with_reducible (first|refine ab ?_ ?_|exact True.intro|refine DQ ?_|fail)|with_reducible (refine ay ?_)|refine RQ ?_|(intro _;exact rfl)|((with_reducible apply db);rfl))
 all_goals first|rfl|simp
theorem B7 (l:List Eo) (hl:l.length<=9223372036854775807):cd Tryz.prog 69 [.c (MR l),.c (MR l)] [] (vB true) []:=by
 refine PQ Tryz.func69 ?_;simp only[cu,Nat.zero_add,Nat.reduceAdd]
 repeat' (first|with_reducible (first|refine ab ?_ ?_|exact True.intro|refine DQ ?_|fail)|with_reducible (first|refine ay ?_|refine aD ?_)|((with_reducible apply av);refine aq rfl ?_ ?_;all_goals (intro hbq;(try simp only[bq] at hbq);(try (exfalso;omega))))|refine RQ ?_|fail)
 refine aH (fun i:Nat=>SS [sC 0 (MR l),sC 1 (MR l),sI 12 l.length,sI 13 i] []) (fun i=>i<=l.length) (fun i=>l.length-i) 0 ?_ (by omega) ?_
 ·
  refine WQ ?_ ?_<;>repeat' (first|with_reducible (first|refine KQ ?_|refine ab ?_ ?_|exact True.intro)|refine ax rfl ?_ ?_|exact (rfl:known _=_)|omega)
 ·intro i hi
  repeat' (first|with_reducible (first|refine ab ?_ ?_|exact True.intro|refine DQ ?_|assumption)|with_reducible (first|refine ay ?_|refine aD ?_)|((with_reducible apply av);refine aq rfl ?_ ?_;all_goals (intro hbq;(try simp only[bq] at hbq);(try (exfalso;omega))))|refine RQ ?_|((with_reducible apply aL);exact fun _=>⟨rfl,rfl⟩)|((with_reducible apply bh);kernel_rfl)|omega)
  all_goals first|(exfalso;simp at hbq;done)|skip
  ·
   refine az (i+1) ?_ ((by omega)) (by (try dsimp only);omega);refine WQ ?_ ?_<;>repeat' (first|with_reducible (first|refine KQ ?_|refine ab ?_ ?_|exact True.intro)|refine ax rfl ?_ ?_|exact (rfl:known _=_)|omega)
  ·rfl
theorem B6 (l:List hW) (hl:l.length<=9223372036854775807):cd Tryz.prog 27 [.c (rD l),.c (rD l)] [] (vB true) []:=by
 refine PQ Tryz.func27 ?_;simp only[cu,Nat.zero_add,Nat.reduceAdd]
 repeat' (first|with_reducible (first|refine ab ?_ ?_|exact True.intro|refine DQ ?_|fail)|with_reducible (first|refine ay ?_|refine aD ?_)|((with_reducible apply av);refine aq rfl ?_ ?_;all_goals (intro hbq;(try simp only[bq] at hbq);(try (exfalso;omega))))|refine RQ ?_|fail)
 refine aH (fun i:Nat=>SS [sC 0 (rD l),sC 1 (rD l),sI 12 l.length,sI 13 i] []) (fun i=>i<=l.length) (fun i=>l.length-i) 0 ?_ (by omega) ?_
 ·
  refine WQ ?_ ?_<;>repeat' (first|with_reducible (first|refine KQ ?_|refine ab ?_ ?_|exact True.intro)|refine ax rfl ?_ ?_|exact (rfl:known _=_)|omega)
 ·intro i hi
  repeat' (first|with_reducible (first|refine ab ?_ ?_|exact True.intro|refine DQ ?_|assumption)|with_reducible (first|refine ay ?_|refine aD ?_)|((with_reducible apply av);refine aq rfl ?_ ?_;all_goals (intro hbq;(try simp only[bq] at hbq);(try (exfalso;omega))))|refine RQ ?_|((with_reducible apply aL);exact fun _=>⟨rfl,rfl⟩)|((with_reducible apply bh);kernel_rfl)|omega)
  all_goals first|(exfalso;simp at hbq;done)|skip
  ·
   refine az (i+1) ?_ ((by omega)) (by (try dsimp only);omega);refine WQ ?_ ?_<;>repeat' (first|with_reducible (first|refine KQ ?_|refine ab ?_ ?_|exact True.intro)|refine ax rfl ?_ ?_|exact (rfl:known _=_)|omega)
  ·rfl
theorem mq (l:List (List Eo)) (hl:l.length<=9223372036854775807) (hr: ∀ i,(l.getD i []).length<=9223372036854775807):cd Tryz.prog 37 [.c (nA l),.c (nA l)] [] (vB true) []:=by
 refine PQ Tryz.func37 ?_;simp only[cu,Nat.zero_add,Nat.reduceAdd]
 repeat' (first|with_reducible (first|refine ab ?_ ?_|exact True.intro|refine DQ ?_|fail)|with_reducible (first|refine ay ?_|refine aD ?_)|((with_reducible apply av);refine aq rfl ?_ ?_;all_goals (intro hbq;(try simp only[bq] at hbq);(try (exfalso;omega))))|refine RQ ?_|fail)
 refine aH (fun i:Nat=>SS [sC 0 (nA l),sC 1 (nA l),sI 12 l.length,sI 13 i] []) (fun i=>i<=l.length) (fun i=>l.length-i) 0 ?_ (by omega) ?_
 ·
  refine WQ ?_ ?_<;>repeat' (first|with_reducible (first|refine KQ ?_|refine ab ?_ ?_|exact True.intro)|refine ax rfl ?_ ?_|exact (rfl:known _=_)|omega)
 ·intro i hi
  have hS:=B7 (l.getD (i:Int).toNat []) (hr _)
  repeat' (first|with_reducible (first|refine ab ?_ ?_|exact True.intro|refine DQ ?_|assumption)|((with_reducible apply aC);refine an (hS) rfl ?_)|with_reducible (first|refine ay ?_|refine aD ?_)|((with_reducible apply av);refine aq rfl ?_ ?_;all_goals (intro hbq;(try simp only[bq] at hbq);(try (exfalso;omega))))|refine RQ ?_|((with_reducible apply aL);exact fun _=>⟨rfl,rfl⟩)|((with_reducible apply bh);kernel_rfl)|omega)
  ·
   refine az (i+1) ?_ ((by omega)) (by (try dsimp only);omega);refine WQ ?_ ?_<;>repeat' (first|with_reducible (first|refine KQ ?_|refine ab ?_ ?_|exact True.intro)|refine ax rfl ?_ ?_|exact (rfl:known _=_)|omega)
  ·rfl
def wt (b:UInt8):Bool:=decide (b.toNat=32)||decide (b.toNat=9)
def p8 (c:Nat):Bool:=decide (33<=c)&&decide (c<=126)&&decide (c≠35)
def wq (b:UInt8):Bool:=p8 b.toNat
def bL (l:List UInt8):ByteArray:=⟨l.toArray⟩
structure PW where
 tx:List UInt8
 ln:Int
 co:Int
def PW.w (p:PW):CR:=⟨bL p.tx,p.ln,p.co⟩
def iA:List PW->UInt8->List PW
 |[],_=>[]
 |[w],b=>[⟨w.tx++[b],w.ln,w.co⟩]
 |w::u::l,b=>w::iA (u::l) b
def sP (s:List UInt8) (ln:Int) (ws:List PW) (i:Nat):List PW:=
 if wt (s.getD i 0) then ws else if 0<i/\wq (s.getD (i-1) 0)=true then iA ws (s.getD i 0) else ws++[⟨[s.getD i 0],ln,i+1⟩]
def nN (s:List UInt8) (ln:Int):Nat->List PW
 |0=>[]
 |i+1=>sP s ln (nN s ln i) i
def vW (s:List UInt8) (ln:Int):List PW:=nN s ln s.length
def DI (s:List UInt8):Bool:=s.all fun b=>wt b||wq b
def gk (s:List UInt8):Nat:=(s.takeWhile fun b=>b != 10).length
def fX:Nat->List UInt8->Int->List (List PW)
 |0,_,_=>[]
 |n+1,s,ln=>if s=[] then [] else
  let l:=vW (s.take (gk s)) ln
  (if l=[] then [] else [l])++fX n (s.drop (gk s+1)) (ln+1)
def digit (b:UInt8):Bool:=decide (48<=b.toNat)&&decide (b.toNat<=57)
def kh (l:List UInt8):Bool:=decide (1<=l.length)&&decide (l.length<=12)&&l.all digit&&(decide (l.length=1)|| !(l.getD 0 0==48))
def ow (l:List UInt8):Int:=l.foldl (fun n b=>10*n+((b.toNat:Int)-48)) 0
def eW:List ByteArray->List UInt8->Int
 |[],_=> -1
 |x::l,s=>if x.data.toList=s then 0 else let r:=eW l s;if r<0 then -1 else r+1
def wj (s:List UInt8):Int:=if s=[65] then 0 else if s=[66] then 1 else -1
def AQ (L:bJ) (w:List PW):Option bJ:=
 match w.map PW.tx with
 |[k,a]=>if k=[115,116,97,116,105,111,110] then some { L with sts:=L.sts++[bL a] } else none
 |[k,a,b,c,d]=>
  if k=[115,101,99,116,105,111,110] then
   if kh b&&kh c&&kh d then some { L with secs:=L.secs++[⟨bL a,ow b,ow c,ow d,-1⟩] } else none
  else if k=[108,105,110,107] then
   if 0<=wj b/\0<=wj d/\0<=eW (L.secs.map eP.nm) a/\0<=eW (L.secs.map eP.nm) c then some { L with lnks:=L.lnks++[⟨eW (L.secs.map eP.nm) a,wj b,eW (L.secs.map eP.nm) c,wj d,-1,0⟩] } else none
  else none
 |[k,a,b,c,d,e,f]=>
  if k=[115,101,99,116,105,111,110]/\e=[97,116]/\(kh b&&kh c&&kh d)=true/\0<=eW L.sts f then some { L with secs:=L.secs++[⟨bL a,ow b,ow c,ow d,eW L.sts f⟩] } else none
 |_=>none
def uF:bJ->List (List PW)->Option bJ
 |L,[]=>some L
 |L,w::l=>match AQ L w with
  |some L'=>uF L' l
  |none=>none
def DL (s:List UInt8):Option bJ:=uF ⟨[],[],[],[]⟩ (fX (s.length+1) s 1)
theorem iK: ∀ (l:List PW) (b:UInt8),(iA l b).length=l.length
 |[],_=>rfl
 |[w],_=>rfl
 |w::u::l,b=>by simp only[iA,List.length_cons,iK (u::l) b]
theorem pI: ∀ (l:List PW) (w:PW) (b:UInt8),iA (l++[w]) b=l++[⟨w.tx++[b],w.ln,w.co⟩]
 |[],w,b=>rfl
 |[u],w,b=>rfl
 |u::v::l,w,b=>by
  have:=pI (v::l) w b;simp only[List.cons_append,iA] at this⊢
  rw[this]
theorem rQ (s:List UInt8) (ln:Int): ∀ i,(nN s ln i).length<=i
 |0=>Nat.le_refl _
 |i+1=>by
  have:=rQ s ln i;unfold nN sP;split
  ·omega
  ·split
   ·rw[iK];omega
   ·simp;omega
theorem Ml {b:UInt8} (h:(wt b||wq b)=true) (h2: ¬ wt b=true):wq b=true:=by
 rcases Bool.or_eq_true _ _▸h with h|h
 ·exact absurd h h2
 ·exact h
theorem Jy {b:UInt8} (h:wq b=true): ¬ wt b=true:=by
 unfold wq p8 at h;unfold wt;simp only[Bool.and_eq_true,decide_eq_true_eq,Bool.or_eq_true] at h⊢;omega
theorem Cx {s:List UInt8} (ln:Int): ∀ {i:Nat},0<i->wq (s.getD (i-1) 0)=true->nN s ln i≠[]
 |i+1,_,h=>by
  intro e;have hl:(nN s ln (i+1)).length=0:=by rw[e];rfl
  unfold nN sP at hl;rw[Nat.add_sub_cancel] at h;rw[if_neg (Jy h)] at hl;split at hl
  ·rename_i c
   rw[iK] at hl;exact Cx ln c.1 c.2 (List.eq_nil_of_length_eq_zero hl)
  ·simp at hl
theorem uf (n:Nat): ∀ (l:List PW) (b:UInt8),(∀ p∈l,p.tx.length<=n)-> ∀ p∈iA l b,p.tx.length<=n+1
 |[],_,_,p,hp=>by cases hp
 |[w],b,h,p,hp=>by
  have:=h w (List.mem_cons_self ..);simp only[iA,List.mem_cons,List.not_mem_nil,or_false] at hp
  subst hp;simp;omega
 |w::u::l,b,h,p,hp=>by
  simp only[iA,List.mem_cons] at hp;rcases hp with rfl|hp
  ·have:=h p (List.mem_cons_self ..);omega
  ·exact uf n (u::l) b (fun q hq=>h q (List.mem_cons_of_mem _ hq)) p hp
theorem Cy (s:List UInt8) (ln:Int): ∀ i,∀ p∈nN s ln i,p.tx.length<=i
 |0,p,hp=>by cases hp
 |i+1,p,hp=>by
  have ih:=Cy s ln i;unfold nN sP at hp
  split at hp
  ·have:=ih p hp;omega
  ·split at hp
   ·exact uf i _ _ ih p hp
   ·rcases List.mem_append.1 hp with h|h
    ·have:=ih p h;omega
    ·simp only[List.mem_cons,List.not_mem_nil,or_false] at h
     subst h;simp
theorem sf (s:ByteArray) (k:Nat) (h:k<s.size):s.extract k (k+1)=bL [s[k]]:=by
 apply ByteArray.ext;rw[ByteArray.data_extract];apply Array.ext';rw[Array.toList_extract];show List.extract s.data.toList k (k+1)=[s[k]]
 rw[List.extract_eq_take_drop,Nat.add_sub_cancel_left,List.drop_eq_getElem_cons (by simpa using h)];rfl
theorem Ow (a b:List UInt8):bL a++bL b=bL (a++b):=by
 apply ByteArray.ext;rw[ByteArray.data_append];simp[bL]
theorem EF (a:List UInt8):(bL a).size=a.length:=rfl
end Go.Proofs.YtjkeeocnekggfaaGreat.Av
namespace Go.Proofs.YtjkeeocnekggfaaGreat
open Go.RowKit
open Av
theorem lx (c:Nat) (w:World) (hc:c<256):
  Calls Tryz.prog 177 #[.int .u8 c] w fun e w'=>e= .returned (.bool (p8 c))/\w=w':=by
 go_enter Tryz.func177,Tryz.ntmps177
 go_wp2
 all_goals
  go_ret
  exact ⟨aO (by rw[Bool.eq_iff_iff];simp[p8];try omega),rfl⟩
theorem Jx:(Tryz.prog.info? 212).map (fun i=>(i.zero,i.size,i.bytes))=some (some (.agg #[.string ⟨#[]⟩,.int .i64 0,.int .i64 0]),3,32):=by kernel_rfl
def wF (p:PW):List Value:=[.string (bL p.tx),.int .i64 p.ln,.int .i64 p.co]
theorem BD {w:World} {base:Nat} {e:TypeId} {size g cap n:Nat} {xs:List Value} (h:w.ownsRow base e size (.slice (some ⟨g,0,none⟩) n cap) n xs) {j:Nat} (hj:j<xs.length) (v:Value):(w.setCell ⟨g,j,none⟩ v).ownsRow base e size (.slice (some ⟨g,0,none⟩) n cap) n (xs.set j v):=by
 obtain ⟨h1,h2⟩:=h;refine ⟨by rw[List.length_set];exact h1,?_⟩;rcases h2 with ⟨h0,_⟩|⟨g',cap',cur,hv,hg,hh,hn,hcap,hsz,ht⟩
 ·cases h0
 ·cases hv
  refine .inr ⟨g,cap,cur.setIfInBounds j v,rfl,hg,?_,hn,hcap,by simpa using hsz,?_⟩
  ·exact heap_setCell_same _ _ _ _ _ _ hh
  ·rw[Array.toList_setIfInBounds,← ht,List.take_set]
theorem Py {w:World} {base:Nat} {e:TypeId} {size:Nat} {A:Option Addr} {c n:Nat} {xs:List Value} (h:w.ownsRow base e size (.slice A n c) n xs) (hn:0<n): ∃ g,A=some ⟨g,0,none⟩/\base<=g/\n<=c/\(∀ j,w.frozen? ⟨g,j,none⟩=false)/\ ∀ j u,xs[j]? =some u->w.cell? ⟨g,j,none⟩=some u:=by
 obtain ⟨h1,h2⟩:=h;rcases h2 with ⟨_,h0⟩|⟨g,cap,cur,hv,hg,hh,hle,hcap,hsz,ht⟩
 ·omega
 ·injection hv with e1 e2 e3
  subst e1;subst e3;refine ⟨g,rfl,hg,hle,fun j=>by simp[World.frozen?,hh],fun j u hu=> ?_⟩;rw[← ht,List.getElem?_take] at hu;split at hu
  ·simp only[World.cell?,hh]
   simpa using hu
  ·cases hu
def R5 (w:World) (ws:List PW) (e:Ending) (w':World):Prop:=
 ∃ A c,e= .returned (.tuple #[.slice A ws.length c,.int .i64 0])/\ot w' w.heap.size 212 3 wF (.slice A ws.length c) ws/\Below w.heap.size w w'
set_option maxRecDepth 3000 in
theorem ML (s:ByteArray) (ln:Int) (w:World) (hok:DI s.data.toList=true) (hs:s.size<=65536) (hw:(vW s.data.toList ln).length<=64):Calls Tryz.prog 138 #[.string s,.int .i64 ln] w (R5 w (vW s.data.toList ln)):=by
 obtain ⟨i0,hi,hz0,hz1,hz2⟩:=info_parts Jx;obtain ⟨W,HW⟩: ∃ W:Nat->List PW,Hid (∀ i,nN s.data.toList ln i=W i):=⟨_,Lib.hid fun _=>rfl⟩;have hlen:s.data.toList.length=s.size:=by rfl
 go_enter Tryz.func138,Tryz.ntmps138
 go_wp2
 go_loopw [6,7] (fun v kv wr=> ∃ (k:Nat) (A:Option Addr) (c:Nat),k<=s.size/\kv= .int .i64 k/\v= .slice A (W k).length c/\Hid (wr.ownsRow w.heap.size 212 3 (.slice A (W k).length c) (W k).length ((W k).flatMap wF))/\Hid (Below w.heap.size w wr)) (fun _ kv _=>s.size-(intOf kv).toNat)
 case atStart=>exact ⟨0,none,0,by omega,rfl,by rw[← HW.out];rfl,by rw[← HW.out];exact Lib.hid (World.ownsRow_nil w w.heap.size 212 3),Lib.hid (Below.refl _ _)⟩
 case round=>
  obtain ⟨k,A,c,hk,rfl,rfl,Ho,Hb⟩:=hrel;by_cases hlt:k<s.size
  ·have hbk:(wt s[k]||wq s[k])=true:=by
    have:=List.all_eq_true.1 hok s[k] (by rw[Array.mem_toList_iff];exact Array.getElem_mem hlt);exact this
   have hk1:nN s.data.toList ln (k+1)=sP s.data.toList ln (W k) k:=by rw[← HW.out];rfl
   have hgk:s.data.toList.getD k 0=s[k]:=by
    rw[List.getD_eq_getElem?_getD,List.getElem?_eq_getElem (by rw[hlen];exact hlt)];rfl
   by_cases hsp:wt s[k]=true
   ·have HW1:Hid (W (k+1)=W k):=Lib.hid (by rw[← HW.out,hk1];unfold sP;rw[hgk,if_pos hsp])
    unfold wt at hsp;by_cases h32:s[k].toNat=32
    ·have hb1:((s[k].toNat:Int)==32)=true:=by rw[h32];rfl
     have hb2:((s[k].toNat:Int) != 35)=true:=by rw[h32];rfl
     go_wp2
     go_roundw
     case rel=>exact ⟨k+1,A,c,by omega,by go_num,by rw[HW1.out],by rw[HW1.out];exact Ho,Hb⟩
     case measure=>simp[intOf];omega
    ·have h9:s[k].toNat=9:=by simpa[h32] using hsp
     have hb0:((s[k].toNat:Int)==32)=false:=by rw[h9];rfl
     have hb1:((s[k].toNat:Int)==9)=true:=by rw[h9];rfl
     have hb2:((s[k].toNat:Int) != 35)=true:=by rw[h9];rfl
     go_wp2
     go_roundw
     case rel=>exact ⟨k+1,A,c,by omega,by go_num,by rw[HW1.out],by rw[HW1.out];exact Ho,Hb⟩
     case measure=>simp[intOf];omega
   ·have hpl:=Ml hbk hsp
    have hc:s[k].toNat≠32/\s[k].toNat≠9:=by
     unfold wt at hsp;simp only[Bool.or_eq_true,decide_eq_true_eq,not_or] at hsp;exact hsp
    have hc2:s[k].toNat≠35:=by
     have:=hpl;unfold wq p8 at this
     simp only[Bool.and_eq_true,decide_eq_true_eq] at this;exact this.2
    have hb0:((s[k].toNat:Int)==32)=false:=by rw[beq_eq_false_iff_ne];omega
    have hb1:((s[k].toNat:Int)==9)=false:=by rw[beq_eq_false_iff_ne];omega
    have hb2:((s[k].toNat:Int) != 35)=true:=by rw[bne_iff_ne];omega
    have HP:Hid (p8 s[k].toNat=true):=Lib.hid hpl;by_cases hpr:0<k/\wq (s.data.toList.getD (k-1) 0)=true
    ·obtain ⟨j,hj⟩: ∃ j,j=k-1:=⟨_,rfl⟩
     have hk0:1<=k:=by omega
     have hjs:j<s.size:=by omega
     have hji:(k:Int)-1=(j:Int):=by omega
     have hgj:s.data.toList.getD j 0=s[j]:=by
      rw[List.getD_eq_getElem?_getD,List.getElem?_eq_getElem (by rw[hlen];omega)];rfl
     have HQ:Hid (p8 s[j].toNat=true):=Lib.hid (by have:=hpr.2;rw[← hj,hgj] at this;exact this);have hne:W k≠[]:=by rw[← HW.out];exact Cx ln hpr.1 hpr.2
     have HW1:Hid (W (k+1)=iA (W k) s[k]):=Lib.hid (by rw[← HW.out,hk1];unfold sP;rw[hgk,if_neg hsp,if_pos hpr]);obtain ⟨ws,x,Hx⟩: ∃ ws x,Hid (W k=ws++[x]):=⟨_,_,Lib.hid (List.dropLast_concat_getLast hne).symm⟩;clear hk1 hgk hbk hpl hsp hpr hgj hc hc2 hne;obtain ⟨m,hm⟩: ∃ m,(W k).length=m+1:=⟨ws.length,by rw[Hx.out];simp⟩;have hmw:m=ws.length:=by rw[Hx.out] at hm;simpa using hm.symm
     have Ho':=Ho.out;rw[hm] at Ho'⊢
     obtain ⟨g,rfl,hg0,hgc,hfz,hcl⟩:=Py Ho' (Nat.succ_pos _);have hcl0:wr.cell? ⟨g,m*3,none⟩=some (.string (bL x.tx)):=hcl (m*3) _ (by
      rw[Hx.out,List.flatMap_append,List.getElem?_append_right (by rw[aK wF 3 (fun _=>rfl),← hmw];omega),aK wF 3 (fun _=>rfl),← hmw,Nat.sub_self];rfl)
     have hfz0:=hfz (m*3);have hmb:m+1<=65536:=by
      have:=rQ s.data.toList ln k;rw[HW.out,hm] at this
      omega
     have Hmw:=Lib.hid hmw;have Hm:=Lib.hid hm;have HO:=Lib.hid Ho';clear hj hmw hm hfz hcl Ho' Ho
     go_wp2_with fail
     refine (lx _ _ (UInt8.toNat_lt _)).mono ?_;rintro e w' ⟨rfl,rfl⟩;rw[HP.out]
     go_wp2_with fail
     refine (lx _ _ (UInt8.toNat_lt _)).mono ?_;rintro e w' ⟨rfl,rfl⟩;rw[HQ.out]
     go_wp2
     have hk2:k+1<=s.size:=hlt;have hk3:(k:Int)+1<=(s.size:Int):=by omega
     have hk4:(0:Int)<=(k:Int)+1:=by omega
     have hk5:(0:Int)<=(k:Int):=by omega
     have hk6:(k:Int)<=(k:Int)+1:=by omega
     have hk7:((k:Int)+1).toNat=k+1:=by omega
     have hex:=sf s k hlt;have hxt:x.tx.length<=65536:=by
      have:=Cy s.data.toList ln k x (by rw[HW.out,Hx.out];simp);omega
     have hsum:(bL x.tx).size+(bL [s[k]]).size<=9223372036854775807:=by rw[EF,EF];simp;omega
     have hsum2:((bL x.tx).size:Int)+((bL [s[k]]).size:Int)<=9223372036854775807:=by omega
     have hsum3: ¬ (9223372036854775807:Int)<((bL x.tx).size:Int)+((bL [s[k]]).size:Int):=by omega
     (refine eZ (fun w'=> ∃ n,w'=World.drewN wr n) 15 (by kernel_rfl) (by kernel_rfl) ⟨1,rfl⟩ ?_;simp only[List.take_succ_cons,List.take_zero,List.drop_succ_cons,List.drop_zero];(repeat (go_big_quiet_step (fail)));refine wpQuiet_nil ?_;intro w' hw';obtain ⟨nq,rfl⟩:=hw')
     have HO1:Hid (((wr.drewN nq).setCell ⟨g,m*3,none⟩ (.string (bL x.tx++bL [s[k]]))).ownsRow w.heap.size 212 3 (.slice (some ⟨g,0,none⟩) (W (k+1)).length c) (W (k+1)).length ((W (k+1)).flatMap wF)):=Lib.hid (by
      have h0:(wr.drewN nq).ownsRow w.heap.size 212 3 (.slice (some ⟨g,0,none⟩) (m+1) c) (m+1) ((W k).flatMap wF):=HO.out;have h1:=BD h0 (j:=m*3) (by rw[aK wF 3 (fun _=>rfl),Hm.out];omega) (.string (bL x.tx++bL [s[k]]));have e2:((W k).flatMap wF).set (m*3) (.string (bL x.tx++bL [s[k]]))=(W (k+1)).flatMap wF:=by
       rw[HW1.out,Hx.out,pI,List.flatMap_append,List.flatMap_append,List.set_append_right _ _ (by rw[aK wF 3 (fun _=>rfl),Hmw.out];omega),aK wF 3 (fun _=>rfl),← Hmw.out,Nat.sub_self,Ow];rfl
      have e3:(W (k+1)).length=m+1:=by rw[HW1.out,iK,Hm.out]
      rw[e2] at h1;rw[e3];exact h1)
     have HB1:Hid (Below w.heap.size w ((wr.drewN nq).setCell ⟨g,m*3,none⟩ (.string (bL x.tx++bL [s[k]])))):=Lib.hid (Below.setCell (show Below w.heap.size w (wr.drewN nq) from ⟨Hb.out.os,Hb.out.tape,Hb.out.output,Hb.out.size,Hb.out.block⟩) (by exact hg0) _);have e4:(W (k+1)).length=m+1:=by rw[HW1.out,iK,Hm.out]
     go_wp2
     generalize (wr.drewN nq).setCell ⟨g,m*3,none⟩ (.string (bL x.tx++bL [s[k]]))=w5 at*
     go_roundw
     case rel=>exact ⟨k+1,some ⟨g,0,none⟩,c,by omega,by go_num,by rw[e4],HO1,HB1⟩
     case measure=>simp[intOf];omega
    ·have HW1:Hid (W (k+1)=W k++[⟨[s[k]],ln,k+1⟩]):=Lib.hid (by rw[← HW.out,hk1];unfold sP;rw[hgk,if_neg hsp,if_neg hpr])
     have hex:=sf s k hlt;have hWl:(W k).length<=65536:=by
      have:=rQ s.data.toList ln k;rw[HW.out] at this
      omega
     have hk2:k+1<=s.size:=hlt;have hk3:(k:Int)+1<=(s.size:Int):=by omega
     have hk4:(0:Int)<=(k:Int)+1:=by omega
     have hk5:(0:Int)<=(k:Int):=by omega
     have hk6:(k:Int)<=(k:Int)+1:=by omega
     have hk7:((k:Int)+1).toNat=k+1:=by omega
     by_cases hk0:k=0
     ·have hkz: ¬ (0:Int)<(k:Int):=by omega
      have hkz2: ¬ 0<k:=by omega
      clear hk1 hgk hbk hpl hsp hpr hc hc2 hk0
      go_wp2_with fail
      refine (lx _ _ (UInt8.toNat_lt _)).mono ?_;rintro e w' ⟨rfl,rfl⟩;rw[HP.out]
      go_wp2_with (at_builtin;refine wpList_append_lies _ (by rfl) _ _ _ (by rfl) w.heap.size 212 i0 (.agg #[.string ⟨#[]⟩,.int .i64 0,.int .i64 0]) 3 32 Tryz.underlying210 hi hz0 hz1 hz2 rfl (by omega) _ (W k).length _ (by rfl) (Ho.out.alloc _) ⟨wr.heap.size,0,none⟩ 1 1 [.string (bL [s[k]]),.int .i64 ln,.int .i64 (k+1)] (by rfl) (by rfl) ?c1 ?c2 (by omega) ?c3 ?c4 ?c5 (wr.heap.size+1) (by simp) ?_)
      case c1=>exact World.news_of_block (heap_alloc_new wr _)
      case c2=>intro u hu;simp at hu;rcases hu with rfl|rfl|rfl<;>rfl
      case c3=>unfold maxLen;omega
      case c4=>omega
      case c5=>have:=Hb.out.size;simp;omega
      intro g cap w1 hown hg hat hlt1;have Hown:Hid (w1.ownsRow w.heap.size 212 3 (.slice (some ⟨g,0,none⟩) ((W k).length+1) cap) ((W k).length+1) ((W (k+1)).flatMap wF)):=Lib.hid (by rw[HW1.out,List.flatMap_append];exact hown);have Hb1:Hid (Below w.heap.size w w1):=Lib.hid ((Hb.out.alloc Hb.out.size _).grown hg (by have:=Hb.out.size;simp;omega) (fun q hq=>((Ho.out.lt q hq).1)));have e4:(W (k+1)).length=(W k).length+1:=by rw[HW1.out];simp
      clear hown hg hat
      go_wp2
      go_roundw
      case rel=>exact ⟨k+1,some ⟨g,0,none⟩,cap,by omega,by go_num,by rw[e4],by rw[e4];exact Hown,Hb1⟩
      case measure=>simp[intOf];omega
     ·obtain ⟨j,hj⟩: ∃ j,j=k-1:=⟨_,rfl⟩
      have hk0:1<=k:=by omega
      have hjs:j<s.size:=by omega
      have hji:(k:Int)-1=(j:Int):=by omega
      have hgj:s.data.toList.getD j 0=s[j]:=by
       rw[List.getD_eq_getElem?_getD,List.getElem?_eq_getElem (by rw[hlen];omega)];rfl
      have HQ:Hid (p8 s[j].toNat=false):=Lib.hid (by
       cases e:p8 s[j].toNat with
       |false=>rfl
       |true=>exact absurd ⟨by omega,by rw[← hj,hgj];exact e⟩ hpr)
      clear hk1 hgk hbk hpl hsp hpr hgj hc hc2 hj
      go_wp2_with fail
      refine (lx _ _ (UInt8.toNat_lt _)).mono ?_;rintro e w' ⟨rfl,rfl⟩;rw[HP.out]
      go_wp2_with fail
      refine (lx _ _ (UInt8.toNat_lt _)).mono ?_;rintro e w' ⟨rfl,rfl⟩;rw[HQ.out]
      go_wp2_with (at_builtin;refine wpList_append_lies _ (by rfl) _ _ _ (by rfl) w.heap.size 212 i0 (.agg #[.string ⟨#[]⟩,.int .i64 0,.int .i64 0]) 3 32 Tryz.underlying210 hi hz0 hz1 hz2 rfl (by omega) _ (W k).length _ (by rfl) (Ho.out.alloc _) ⟨wr.heap.size,0,none⟩ 1 1 [.string (bL [s[k]]),.int .i64 ln,.int .i64 (k+1)] (by rfl) (by rfl) ?c1 ?c2 (by omega) ?c3 ?c4 ?c5 (wr.heap.size+1) (by simp) ?_)
      case c1=>exact World.news_of_block (heap_alloc_new wr _)
      case c2=>intro u hu;simp at hu;rcases hu with rfl|rfl|rfl<;>rfl
      case c3=>unfold maxLen;omega
      case c4=>omega
      case c5=>have:=Hb.out.size;simp;omega
      intro g cap w1 hown hg hat hlt1;have Hown:Hid (w1.ownsRow w.heap.size 212 3 (.slice (some ⟨g,0,none⟩) ((W k).length+1) cap) ((W k).length+1) ((W (k+1)).flatMap wF)):=Lib.hid (by rw[HW1.out,List.flatMap_append];exact hown);have Hb1:Hid (Below w.heap.size w w1):=Lib.hid ((Hb.out.alloc Hb.out.size _).grown hg (by have:=Hb.out.size;simp;omega) (fun q hq=>((Ho.out.lt q hq).1)));have e4:(W (k+1)).length=(W k).length+1:=by rw[HW1.out];simp
      clear hown hg hat
      go_wp2
      go_roundw
      case rel=>exact ⟨k+1,some ⟨g,0,none⟩,cap,by omega,by go_num,by rw[e4],by rw[e4];exact Hown,Hb1⟩
      case measure=>simp[intOf];omega
  ·obtain rfl:s.size=k:=by omega
   have hwl:(W s.size).length<=64:=by rw[← HW.out,← hlen];exact hw
   have HWO:Hid (vW s.data.toList ln=W s.size):=Lib.hid (HW.out _)
   go_wp2
   go_ret2
   exact ⟨A,c,by rw[HWO.out];rfl,by rw[HWO.out];exact Ho.out,Hb.out⟩
end Go.Proofs.YtjkeeocnekggfaaGreat
namespace Go.Proofs.YtjkeeocnekggfaaGreat.Av
open Go.RowKit
abbrev dW:CR:=⟨⟨#[]⟩,0,0⟩
theorem GG (l:List PW):(l.map PW.w).flatMap GD=(l.flatMap wF).map ag.v:=by
 induction l with
 |nil=>rfl
 |cons a l ih=>simp only[List.map_cons,List.flatMap_cons,List.map_append,ih];rfl
theorem J0 {P:Program} {f:FuncId} {args:List ad} {t:TypeId} (fn:Func) (hf:P.funcs[f]? =some fn) (hb:fn.body.isSome=true) (hn:(fn.name== "runtime.NumGoroutine")=false) (ws:List PW)
  (h: ∀ (w:World) (κ:Nat->BK) (ρ:Nat->Nat) (vals:Array Value),vals.size=args.length->(∀ i (h:i<args.length) (h':i<vals.size) l,bM w κ ρ l args[i] vals[i])->Calls P f vals w fun e w'=> ∃ A c,e= .returned (.tuple #[.slice A ws.length c,.int .i64 0])/\ot w' w.heap.size t 3 wF (.slice A ws.length c) ws/\Below w.heap.size w w'):Ok P f args [] (.cC [.c (.f (.row ((ws.map PW.w).flatMap GD) (ws.map PW.w).length)),.c (.f (.v (.int .i64 0)))]) []:=by
 refine ⟨⟨fn,hf,hb,hn⟩,rfl,rfl,Nat.le_refl _,fun w κ ρ vals hs hr hok hH=> ?_⟩;refine (h w κ ρ vals hs hr).mono ?_;rintro e w' ⟨A,c,rfl,hO,hB⟩;refine ⟨_,fun g=>if g<w.heap.size then κ g else .lock none,ρ,rfl,fun l=> ?_,⟨fun b cs h=>by simp at h,fun b cs h=>by simp at h⟩,⟨hB.os,hB.tape,hB.output,hB.size,fun g n hg hl=>⟨by rw[if_pos hg];exact hl,hB.block g hg⟩,⟨hB.size,fun g o x hg _ hx=> ?_,fun g n hg hf=>by rw[if_pos hg];exact hf⟩⟩,fun _ _=>rfl⟩
 ·refine ⟨_,rfl,rfl,fun i hi hi'=> ?_⟩
  match i,hi with
  |0,_=>
   refine ⟨rfl,?_⟩;show cy _ _ (.row ((ws.map PW.w).flatMap GD) (ws.map PW.w).length) (.slice A ws.length c)
   rw[GG,List.length_map];obtain ⟨h1,h2⟩:=hO;rcases h2 with ⟨h0,h00⟩|⟨g,cap,cur,hv,hg,hh,hle,hcap,hsz,ht⟩
   ·injection h0 with e1 e2 e3
    have:ws=[]:=List.eq_nil_of_length_eq_zero h00;subst this;rw[e1,show c=0 from e3];exact .nil0 _
   ·injection hv with e1 e2 e3
    subst e1;subst e3;refine iy ⟨g,0,c,rfl,hle,fun j hj=> ?_,fun _=>⟨?_,?_⟩⟩
    ·rw[List.length_map] at hj
     refine ⟨(ws.flatMap wF)[j],?_,?_⟩
     ·have hu:(ws.flatMap wF)[j]? =some (ws.flatMap wF)[j]:=List.getElem?_eq_getElem hj
      conv at hu=>lhs;rw[← ht]
      rw[List.getElem?_take] at hu;split at hu
      ·simp only[World.cell?,hh,Nat.zero_add]
       simpa using hu
      ·cases hu
     ·rw[List.getElem_map]
      refine .v _ ?_;have hm:(ws.flatMap wF)[j]∈ws.flatMap wF:=List.getElem_mem hj;obtain ⟨p,_,hp⟩:=List.mem_flatMap.1 hm
      revert hp
      generalize (ws.flatMap wF)[j]=u;intro hp;simp only[wF,List.mem_cons,List.not_mem_nil,or_false] at hp;rcases hp with rfl|rfl|rfl<;>rfl
    ·exact jL hh
    ·have hnl: ¬ g<w.heap.size:=by omega
     show BK.fits (if g<w.heap.size then κ g else .lock none) _;rw[if_neg hnl];trivial
  |1,_=>exact ⟨rfl,.v _ rfl⟩
 ·rw[World.cell?_of_block (w:=w) (a:=⟨g,o,none⟩) (hB.block g hg)]
  exact hx
theorem Pw (l:List UInt8) (ln:Int) (hok:DI l=true) (hs:l.length<=65536) (hw:(vW l ln).length<=64):cd Tryz.prog 138 [vS (bL l),vI ln] [] (.cC [.c (Ha ((vW l ln).map PW.w)),.c (xI 0)]) []:=by
 refine J0 (t:=212) _ Tryz.func138 (by kernel_rfl) (by kernel_rfl) (vW l ln) fun w κ ρ vals hs2 hr=> ?_
 have hs2:vals.size=2:=hs2;have h0:=(eX.1 (hr 0 (by simp) (by omega) (.slot 0))).1;have h1:=(eX.1 (hr 1 (by simp) (by omega) (.slot 0))).1;have hv:vals= #[.string (bL l),.int .i64 ln]:=by
  apply Array.ext
  ·simpa using hs2
  ·intro i hi hi'
   match i,hi' with
   |0,_=>exact h0
   |1,_=>exact h1
 rw[hv];exact ML (bL l) ln w hok hs hw
theorem P2 (b:Nat) (h1:48<=b) (h2:b<=57):IntKind.u8.wrap ((b:Int)-48)=(b:Int)-48:=by
 simp only[IntKind.wrap];simp[IntKind.bits,IntKind.signed];omega
theorem OL (c:Nat) (hc:c<256):cd Tryz.prog 201 [.c (.c (.f (.v (.int .u8 c))))] [] (vB (decide ((48:Int)<=c)&&decide ((c:Int)<=57))) []:=by
 refine FQ Tryz.func201 ?_;simp only[cu,Nat.zero_add,Nat.reduceAdd]
 repeat' (first|with_reducible (first|refine ab ?_ ?_|exact True.intro|exact bu.nil _|assumption)|refine RQ ?_|(intro (hgq:(_:Bool)=true);(try simp only[bq] at hgq))|((with_reducible apply cH);simp only[bq]))
 repeat' (first|with_reducible (first|refine KQ ?_|exact True.intro)|refine mB.c ?_)
def Bx (l:List UInt8) (i:Nat):Int:=ow (l.take i)
theorem xu (l:List UInt8) (i:Nat) (h:i<l.length):Bx l (i+1)=10*Bx l i+(((l.getD i 0).toNat:Int)-48):=by
 unfold Bx ow;rw[List.take_succ_eq_append_getElem h,List.foldl_append,List.getD_eq_getElem?_getD,List.getElem?_eq_getElem h];rfl
theorem By (l:List UInt8) (hd:l.all digit=true): ∀ i,i<=l.length->0<=Bx l i/\Bx l i+1<=10^i
 |0,_=>⟨by show (0:Int)<=0;omega,by show (0:Int)+1<=1;omega⟩
 |i+1,h=>by
  have ih:=By l hd i (by omega);rw[xu l i (by omega)];have hg:digit (l.getD i 0)=true:=by
   rw[List.getD_eq_getElem?_getD,List.getElem?_eq_getElem (by omega)];exact List.all_eq_true.1 hd _ (List.getElem_mem _)
  unfold digit at hg;simp only[Bool.and_eq_true,decide_eq_true_eq] at hg;have e:(10:Int)^(i+1)=10*10^i:=by rw[Int.pow_succ];omega
  rw[e];omega
theorem yE (l:List UInt8) (i:Nat):(bL l).data.getD i 0=l.getD i 0:=by
 simp[bL,Array.getD_eq_getD_getElem?,List.getD_eq_getElem?_getD]
theorem jt (l:List UInt8) (h:kh l=true):cd Tryz.prog 178 [vS (bL l)] [] (.cC [.c (xI (ow l)),.c (xB true)]) []:=by
 unfold kh at h;simp only[Bool.and_eq_true,decide_eq_true_eq,Bool.or_eq_true] at h;obtain ⟨⟨⟨h1,h2⟩,h3⟩,h4⟩:=h;have hz:(bL l).size=l.length:=rfl;have hdig: ∀ i,i<l.length->48<=((bL l).data.getD i 0).toNat/\((bL l).data.getD i 0).toNat<=57:=fun i hi=>by
  rw[yE];have hg:digit (l.getD i 0)=true:=by
   rw[List.getD_eq_getElem?_getD,List.getElem?_eq_getElem hi];exact List.all_eq_true.1 h3 _ (List.getElem_mem _)
  unfold digit at hg;simpa using hg
 have hd0:48<=((bL l).data.getD (0:Int).toNat 0).toNat/\((bL l).data.getD (0:Int).toNat 0).toNat<=57:=hdig 0 (by omega);have hz0:l.length=1\/((bL l).data.getD (0:Int).toNat 0).toNat≠48:=by
  rcases h4 with h|h
  ·exact .inl h
  ·right
   intro e;have e2:(bL l).data.getD (0:Int).toNat 0=l.getD 0 0:=yE l 0;rw[e2] at e
   have:l.getD 0 0=48:=UInt8.toNat_inj.1 e;rw[this] at h
   simp at h
 have hrg:=By l h3;have hpw: ∀ i,i<=12->(10:Int)^i<=10^12:=fun i hi=>by
  have:=Nat.pow_le_pow_right (n:=10) (by omega) hi
  exact_mod_cast this
 have hmx:(10:Int)^12=1000000000000:=by rfl
 refine FQ Tryz.func178 ?_;simp only[cu,Nat.zero_add,Nat.reduceAdd]
 repeat' (first|with_reducible (first|refine ab ?_ ?_|exact True.intro|refine DQ ?_|assumption)|with_reducible (first|refine ay ?_|refine aD ?_)|((with_reducible apply av);refine aq rfl ?_ ?_;all_goals (intro hbq;(try simp only[bq] at hbq);(try (exfalso;omega))))|refine RQ ?_|(intro (hgq:(_:Bool)=true);(try simp only[bq] at hgq))|(intro (hgq:(_:Bool)=false);(try simp only[bq] at hgq))|((with_reducible apply cH);simp only[bq])|(simp only[hgq,bq];done)|omega)
 refine aH (fun i:Nat=>SS [sS 4 (bL l),sI 5 1,sI 6 (Bx l i),sI 7 i] []) (fun i=>i<=l.length) (fun i=>l.length-i) 0 ?_ (by omega) ?_
 ·
  refine WQ ?_ ?_<;>repeat' (first|with_reducible (first|refine KQ ?_|refine ab ?_ ?_|exact True.intro)|refine ax rfl ?_ ?_|exact aE.ah|exact aE.ao|exact aE.al|refine aN.cells ?_ ?_|refine aN.bF ?_ ?_|refine cg.cons ?_ ?_|exact (rfl:known _=_)|exact (rfl:aF _=true)|with_reducible rfl|omega)
  all_goals rfl
 intro i hi;have hr1:=hrg i hi;have hr2:=hpw i (by omega);have hD:=OL ((bL l).data.getD (i:Int).toNat 0).toNat (UInt8.toNat_lt _);by_cases hil:i<l.length
 ·have hdi:48<=((bL l).data.getD (i:Int).toNat 0).toNat/\((bL l).data.getD (i:Int).toNat 0).toNat<=57:=hdig i hil
  have hu:=P2 _ hdi.1 hdi.2;have hs:=xu l i hil;have e2:(bL l).data.getD (i:Int).toNat 0=l.getD i 0:=yE l i
  repeat' (first|with_reducible (first|refine ab ?_ ?_|exact True.intro|refine DQ ?_|assumption)|((with_reducible apply aC);refine an (hD) rfl ?_)|with_reducible (first|refine ay ?_|refine aD ?_)|((with_reducible apply av);refine aq rfl ?_ ?_;all_goals (intro hbq;(try simp only[bq] at hbq);(try (exfalso;omega))))|refine RQ ?_|omega)
  ·
   refine az (i+1) ?_ ((by omega)) (by (try dsimp only);omega);refine WQ ?_ ?_<;>repeat' (first|with_reducible (first|refine KQ ?_|refine ab ?_ ?_|exact True.intro)|refine ax rfl ?_ ?_|exact aE.ah|exact aE.ao|exact aE.al|refine aN.cells ?_ ?_|refine aN.bF ?_ ?_|refine cg.cons ?_ ?_|exact (rfl:known _=_)|exact (rfl:aF _=true)|with_reducible rfl|omega)
   ·rw[hs,hu,e2]
 ·have hie:i=l.length:=by omega
  subst hie;have e1:Bx l l.length=ow l:=by unfold Bx;rw[List.take_length]
  repeat' (first|with_reducible (first|refine ab ?_ ?_|exact True.intro|exact bu.nil _|refine DQ ?_|fail)|with_reducible (refine ay ?_)|((with_reducible apply av);refine aq rfl ?_ ?_;all_goals (intro hbq;(try simp only[bq] at hbq);(try (exfalso;omega))))|refine RQ ?_|omega)
  ·rw[Int.one_mul,e1]
   repeat' (first|with_reducible (first|refine KQ ?_|refine ab ?_ ?_|exact True.intro)|refine mB.cC ?_)
theorem nS (s:List UInt8):(bL s).toList=s:=by rw[ByteArray.toList_eq];simp[bL]
theorem SI {a:ByteArray} {s:List UInt8} (h:(a.toList==(bL s).toList)=true):a.data.toList=s:=by
 rw[nS,ByteArray.toList_eq] at h;simpa using h
theorem Qg {a:ByteArray} {s:List UInt8} (h:(a.toList==(bL s).toList)=false):a.data.toList≠s:=by
 rw[nS,ByteArray.toList_eq] at h;simpa using h
theorem qe (s:List UInt8):cd Tryz.prog 180 [vS (bL s)] [] (vI (wj s)) []:=by
 unfold wj;have e:(bL s).data.toList=s:=by simp[bL]
 refine FQ Tryz.func180 ?_;simp only[cu,Nat.zero_add,Nat.reduceAdd]
 repeat' (first|with_reducible (first|refine ab ?_ ?_|exact True.intro|exact bu.nil _)|((with_reducible apply bH);intro hbq;(try simp only[bq] at hbq);(try (exfalso;omega)))|refine RQ ?_|fail)
 ·have h:(bL s).data.toList=[65]:=SI hbq
  rw[e] at h;rw[if_pos h]
  repeat' (first|with_reducible (first|refine KQ ?_|exact True.intro)|refine mB.c ?_)
 ·rename_i hbq2
  have h:(bL s).data.toList≠[65]:=Qg hbq2;have h2:(bL s).data.toList=[66]:=SI hbq;rw[e] at h h2
  rw[if_neg h,if_pos h2]
  repeat' (first|with_reducible (first|refine KQ ?_|exact True.intro)|refine mB.c ?_)
 ·rename_i hbq2
  have h:(bL s).data.toList≠[65]:=Qg hbq2;have h2:(bL s).data.toList≠[66]:=Qg hbq;rw[e] at h h2
  rw[if_neg h,if_neg h2]
  repeat' (first|with_reducible (first|refine KQ ?_|exact True.intro)|refine mB.c ?_)
theorem xD: ∀ {l:List ByteArray} {s:List UInt8} {i:Nat},i<l.length->(l.getD i ⟨#[]⟩).data.toList=s->(∀ j,j<i->(l.getD j ⟨#[]⟩).data.toList≠s)->eW l s=i
 |x::l,s,0,_,h,_=>by unfold eW;rw[if_pos (show x.data.toList=s from h)];rfl
 |x::l,s,i+1,hi,h,hn=>by
  have h0: ¬ x.data.toList=s:=hn 0 (by omega);have ih:=xD (l:=l) (s:=s) (i:=i) (by simpa using hi) h (fun j hj=>hn (j+1) (by omega));unfold eW;rw[if_neg h0,ih];simp only;rw[if_neg (by omega)];rfl
theorem xE: ∀ {l:List ByteArray} {s:List UInt8},(∀ j,j<l.length->(l.getD j ⟨#[]⟩).data.toList≠s)->eW l s= -1
 |[],s,_=>rfl
 |x::l,s,hn=>by
  have h0: ¬ x.data.toList=s:=hn 0 (by simp);have ih:=xE (l:=l) (s:=s) (fun j hj=>hn (j+1) (by simpa using hj));unfold eW;rw[if_neg h0,ih];rfl
theorem vt (l:List ByteArray) (s:List UInt8) (hl:l.length<=1000):cd Tryz.prog 179 [.c (ed l),vS (bL s)] [] (vI (eW l s)) []:=by
 refine FQ Tryz.func179 ?_;simp only[cu,Nat.zero_add,Nat.reduceAdd]
 repeat' (first|with_reducible (first|refine ab ?_ ?_|exact True.intro)|refine RQ ?_|fail)
 refine aH (fun i:Nat=>SS [sC 0 (ed l),sS 1 (bL s),sI 5 i] []) (fun i=>i<=l.length/\ ∀ j,j<i->(l.getD j ⟨#[]⟩).data.toList≠s) (fun i=>l.length-i) 0 ?_ ⟨by omega,fun j hj=>by omega⟩ ?_
 ·
  refine WQ ?_ ?_<;>repeat' (first|with_reducible (first|refine KQ ?_|refine ab ?_ ?_|exact True.intro)|refine ax rfl ?_ ?_|exact aE.ah|exact aE.ao|exact aE.al|refine aN.cells ?_ ?_|refine aN.bF ?_ ?_|refine cg.cons ?_ ?_|exact (rfl:known _=_)|exact (rfl:aF _=true)|with_reducible rfl|omega)
 intro i hi;obtain ⟨hi,hno⟩:=hi
 repeat' (first|with_reducible (first|exact VQ|refine ab ?_ ?_|exact True.intro|exact bu.nil _|refine DQ ?_|assumption)|((with_reducible apply bH);intro hbq;(try simp only[bq] at hbq);(try (exfalso;omega)))|refine RQ ?_|omega)
 ·rw[xD (l:=l) (s:=s) (i:=i) (by omega) (SI hbq) hno]
  repeat' (first|with_reducible (first|refine KQ ?_|exact True.intro)|refine mB.c ?_)
 ·
  refine az (i+1) ?_ (⟨by omega,bR hno (Qg hbq)⟩) (by (try dsimp only);omega);refine WQ ?_ ?_<;>repeat' (first|with_reducible (first|refine KQ ?_|refine ab ?_ ?_|exact True.intro)|refine ax rfl ?_ ?_|exact aE.ah|exact aE.ao|exact aE.al|refine aN.cells ?_ ?_|refine aN.bF ?_ ?_|refine cg.cons ?_ ?_|exact (rfl:known _=_)|exact (rfl:aF _=true)|with_reducible rfl|omega)
 ·rw[xE (l:=l) (s:=s) (fun j hj=>hno j (by omega))]
  repeat' (first|with_reducible (first|refine KQ ?_|exact True.intro)|refine mB.c ?_)
abbrev pL (L:bJ):Option SB:=some (.cells [P3 L.sts,P3 L.pts,Ta L.secs,S9 L.lnks])
theorem Db (L:bJ) (w:List CR) (a b c d:List UInt8) (hl:w.length=5) (ha:(w.getD (1:Int).toNat dW).tx=bL a) (hb:(w.getD (2:Int).toNat dW).tx=bL b) (hc:(w.getD (3:Int).toNat dW).tx=bL c) (hd:(w.getD (4:Int).toNat dW).tx=bL d) (h1:kh b=true) (h2:kh c=true) (h3:kh d=true) (hL:L.secs.length<=1000):
  cd Tryz.prog 139 [.c (pB 0),.c (Ha w)] [pL L] (vI 0) [pL { L with secs:=L.secs++[⟨bL a,ow b,ow c,ow d,-1⟩] }]:=by
 have n1:=jt b h1;have n2:=jt c h2;have n3:=jt d h3;rw[← hb] at n1
 rw[← hc] at n2;rw[← hd] at n3;refine FQ Tryz.func139 ?_;simp only[cu,Nat.zero_add,Nat.reduceAdd]
 repeat' (first|with_reducible (first|exact BQ|exact VQ|refine ab ?_ ?_|exact True.intro|refine DQ ?_|assumption)|((with_reducible apply aC);first|refine an (n1) rfl ?_|refine an (n2) rfl ?_|refine an (n3) rfl ?_)|with_reducible (refine ay ?_)|((with_reducible apply av);refine aq rfl ?_ ?_;all_goals (intro hbq;(try simp only[bq] at hbq);(try (exfalso;omega))))|refine RQ ?_|(intro (hgq:(_:Bool)=true);(try simp only[bq] at hgq))|(intro (hgq:(_:Bool)=false);(try simp only[bq] at hgq))|((with_reducible apply cH);simp only[bq])|((with_reducible apply db);rfl)|((with_reducible apply zD);exact rfl)|omega)
 ·rfl
 ·rw[ha]
  repeat' (first|with_reducible (first|refine KQ ?_|refine ab ?_ ?_|exact True.intro)|fail)
theorem yN (L:bJ) (w:List CR) (a b c d e f:List UInt8) (hl:w.length=7) (ha:(w.getD (1:Int).toNat dW).tx=bL a) (hb:(w.getD (2:Int).toNat dW).tx=bL b) (hc:(w.getD (3:Int).toNat dW).tx=bL c) (hd:(w.getD (4:Int).toNat dW).tx=bL d) (he:(w.getD (5:Int).toNat dW).tx=bL [97,116]) (hf:(w.getD (6:Int).toNat dW).tx=bL f) (h1:kh b=true) (h2:kh c=true) (h3:kh d=true) (hp:0<=eW L.sts f) (hL:L.secs.length<=1000) (hS:L.sts.length<=1000):
  cd Tryz.prog 139 [.c (pB 0),.c (Ha w)] [pL L] (vI 0) [pL { L with secs:=L.secs++[⟨bL a,ow b,ow c,ow d,eW L.sts f⟩] }]:=by
 have n1:=jt b h1;have n2:=jt c h2;have n3:=jt d h3;have n4:=vt L.sts f hS;rw[← hb] at n1
 rw[← hc] at n2;rw[← hd] at n3;rw[← hf] at n4;refine FQ Tryz.func139 ?_;simp only[cu,Nat.zero_add,Nat.reduceAdd]
 repeat' (first|with_reducible (first|exact BQ|exact VQ|refine ab ?_ ?_|exact True.intro|refine DQ ?_|assumption)|((with_reducible apply aC);first|refine an (n1) rfl ?_|refine an (n2) rfl ?_|refine an (n3) rfl ?_|refine an (n4) rfl ?_)|with_reducible (refine ay ?_)|((with_reducible apply av);refine aq rfl ?_ ?_;all_goals (intro hbq;(try simp only[bq] at hbq);(try (exfalso;omega))))|refine RQ ?_|(intro (hgq:(_:Bool)=true);(try simp only[bq] at hgq))|(intro (hgq:(_:Bool)=false);(try simp only[bq] at hgq))|((with_reducible apply cH);simp only[bq])|((with_reducible apply db);rfl)|((with_reducible apply zD);exact rfl)|omega)
 ·exact absurd (show (w.getD (5:Int).toNat dW).tx.data.toList=[97,116] by rw[he];simp[bL]) (Qg (s:=[97,116]) hbq.2)
 ·exact absurd (show (w.getD (5:Int).toNat dW).tx.data.toList=[97,116] by rw[he];simp[bL]) (Qg (s:=[97,116]) hbq.2)
 ·rfl
 ·rw[ha]
  repeat' (first|with_reducible (first|refine KQ ?_|refine ab ?_ ?_|exact True.intro)|fail)
theorem Da (L:bJ) (w:List CR) (a b c d:List UInt8) (hl:w.length=5) (ha:(w.getD (1:Int).toNat dW).tx=bL a) (hb:(w.getD (2:Int).toNat dW).tx=bL b) (hc:(w.getD (3:Int).toNat dW).tx=bL c) (hd:(w.getD (4:Int).toNat dW).tx=bL d) (h1:0<=wj b) (h2:0<=wj d) (h3:0<=eW (L.secs.map eP.nm) a) (h4:0<=eW (L.secs.map eP.nm) c) (hL:L.secs.length<=1000) (hL2:L.lnks.length<=1000):
  cd Tryz.prog 140 [.c (pB 0),.c (Ha w)] [pL L] (vI 0) [pL { L with lnks:=L.lnks++[⟨eW (L.secs.map eP.nm) a,wj b,eW (L.secs.map eP.nm) c,wj d,-1,0⟩] }]:=by
 have n1:=qe b;have n2:=qe d;have n3:=sK L hL;have n4:=vt (L.secs.map eP.nm) a (by simpa using hL);have n5:=vt (L.secs.map eP.nm) c (by simpa using hL);rw[← hb] at n1
 rw[← hd] at n2;rw[← ha] at n4;rw[← hc] at n5;unfold bK at n3;refine FQ Tryz.func140 ?_;simp only[cu,Nat.zero_add,Nat.reduceAdd]
 repeat' (first|with_reducible (first|exact BQ|exact VQ|refine ab ?_ ?_|exact True.intro|refine DQ ?_|assumption)|((with_reducible apply aC);first|refine an (n1) rfl ?_|refine an (n2) rfl ?_|refine an (n3) rfl ?_|refine an (n4) rfl ?_|refine an (n5) rfl ?_)|with_reducible (refine ay ?_)|((with_reducible apply av);refine aq rfl ?_ ?_;all_goals (intro hbq;(try simp only[bq] at hbq);(try (exfalso;omega))))|refine RQ ?_|(intro (hgq:(_:Bool)=true);(try simp only[bq] at hgq))|(intro (hgq:(_:Bool)=false);(try simp only[bq] at hgq))|((with_reducible apply cH);simp only[bq])|((with_reducible apply db);rfl)|((with_reducible apply zD);exact rfl)|(simp only[hgq,bq];done)|omega)
 ·rfl
 ·
  repeat' (first|with_reducible (first|refine KQ ?_|refine ab ?_ ?_|exact True.intro)|fail)
theorem TC {w:List CR} {i:Nat} {a b:List UInt8} (h:(w.getD i dW).tx=bL a) (hab:a≠b):((w.getD i dW).tx.toList==(bL b).toList)=false:=by
 rw[h,nS,nS];simpa using hab
theorem RZ {w:List CR} {i:Nat} {a:List UInt8} (h:(w.getD i dW).tx=bL a):((w.getD i dW).tx.toList==(bL a).toList)=true:=by
 rw[h];simp
theorem Dc (L L':bJ) (ws:List PW) (h:AQ L ws=some L') (hL:L.secs.length<=1000) (hL2:L.lnks.length<=1000) (hS:L.sts.length<=1000):
  cd Tryz.prog 94 [.c (pB 0),.c (Ha (ws.map PW.w))] [pL L] (vI 0) [pL L']:=by
 have hg: ∀ i,i<ws.length->((ws.map PW.w).getD i dW).tx=bL ((ws.map PW.tx).getD i []):=fun i hi=>by
  simp[List.getD_eq_getElem?_getD,List.getElem?_map,List.getElem?_eq_getElem hi,PW.w]
 have hwl:(ws.map PW.w).length=ws.length:=by simp
 have htl:(ws.map PW.tx).length=ws.length:=by simp
 unfold AQ at h;generalize ws.map PW.w=w at*;generalize ws.map PW.tx=tx at*
 match tx,h with
 |[k,a],h=>
  have hn:ws.length=2:=by rw[← htl];rfl
  have hw:w.length=2:=by rw[hwl,hn]
  have h0:(w.getD (0:Int).toNat dW).tx=bL k:=hg 0 (by omega);have h1:(w.getD (1:Int).toNat dW).tx=bL a:=hg 1 (by omega);simp only at h
  split at h
  ·rename_i hk
   injection h with h;subst h;rw[hk] at h0;have q0:((w.getD (0:Int).toNat { tx:={ data:= #[] },ln:=0,co:=0 }).tx.toList==ByteArray.toList ⟨#[115,116,97,116,105,111,110]⟩)=true:=RZ h0;refine FQ Tryz.func94 ?_;simp only[cu,Nat.zero_add,Nat.reduceAdd]
   repeat' (first|with_reducible (first|refine ab ?_ ?_|exact True.intro|refine DQ ?_|assumption)|((with_reducible apply av);refine aq rfl ?_ ?_;all_goals (intro hbq;(try simp only[bq,and_true,true_and,and_false,false_and,or_true,true_or,or_false,false_or,not_true_eq_false,not_false_eq_true,Bool.true_eq_false,Bool.false_eq_true,q0] at hbq);(try (exfalso;omega))))|with_reducible (first|refine ay ?_|refine aD ?_)|refine RQ ?_|(intro (hgq:(_:Bool)=true);(try simp only[bq] at hgq))|((with_reducible apply aL);exact fun _=>⟨rfl,rfl⟩)|((with_reducible apply bh);kernel_rfl)|((with_reducible apply cH);simp only[bq])|((with_reducible apply db);rfl)|((with_reducible apply zD);exact rfl)|omega)
   ·rfl
   ·rw[h1]
    repeat' (first|with_reducible (first|refine KQ ?_|refine ab ?_ ?_|exact True.intro)|fail)
  ·cases h
 |[k,a,b,c,d],h=>
  have hn:ws.length=5:=by rw[← htl];rfl
  have hw:w.length=5:=by rw[hwl,hn]
  have h0:(w.getD (0:Int).toNat dW).tx=bL k:=hg 0 (by omega);have h1:(w.getD (1:Int).toNat dW).tx=bL a:=hg 1 (by omega);have h2:(w.getD (2:Int).toNat dW).tx=bL b:=hg 2 (by omega);have h3:(w.getD (3:Int).toNat dW).tx=bL c:=hg 3 (by omega);have h4:(w.getD (4:Int).toNat dW).tx=bL d:=hg 4 (by omega);simp only at h
  split at h
  ·rename_i hk
   split at h
   ·rename_i hnn
    injection h with h;subst h;simp only[Bool.and_eq_true] at hnn;rw[hk] at h0;have q0:((w.getD (0:Int).toNat { tx:={ data:= #[] },ln:=0,co:=0 }).tx.toList==ByteArray.toList ⟨#[115,101,99,116,105,111,110]⟩)=true:=RZ h0;have hD:=Db L w a b c d hw h1 h2 h3 h4 hnn.1.1 hnn.1.2 hnn.2 hL;refine FQ Tryz.func94 ?_;simp only[cu,Nat.zero_add,Nat.reduceAdd]
    repeat' (first|with_reducible (first|refine ab ?_ ?_|exact True.intro|refine DQ ?_|assumption)|((with_reducible apply aC);refine iq [0] (hD) rfl rfl rfl rfl rfl rfl rfl rfl rfl rfl rfl rfl rfl ?_)|((with_reducible apply av);refine aq rfl ?_ ?_;all_goals (intro hbq;(try simp only[bq,and_true,true_and,and_false,false_and,or_true,true_or,or_false,false_or,not_true_eq_false,not_false_eq_true,Bool.true_eq_false,Bool.false_eq_true,q0] at hbq);(try (exfalso;omega))))|with_reducible (first|refine ay ?_|refine aD ?_)|refine RQ ?_|(intro (hgq:(_:Bool)=true);(try simp only[bq] at hgq))|(intro (hgq:(_:Bool)=false);(try simp only[bq] at hgq))|((with_reducible apply aL);exact fun _=>⟨rfl,rfl⟩)|((with_reducible apply cH);simp only[bq])|omega)
    ·rfl
    ·
     repeat' (first|with_reducible (first|refine KQ ?_|refine ab ?_ ?_|exact True.intro)|fail)
   ·cases h
  ·split at h
   ·rename_i hk
    split at h
    ·rename_i hnn
     injection h with h;subst h;rw[hk] at h0;have q0:((w.getD (0:Int).toNat { tx:={ data:= #[] },ln:=0,co:=0 }).tx.toList==ByteArray.toList ⟨#[115,101,99,116,105,111,110]⟩)=false:=TC h0 (by decide);have q1:((w.getD (0:Int).toNat { tx:={ data:= #[] },ln:=0,co:=0 }).tx.toList==ByteArray.toList ⟨#[108,105,110,107]⟩)=true:=RZ h0;have hD:=Da L w a b c d hw h1 h2 h3 h4 hnn.1 hnn.2.1 hnn.2.2.1 hnn.2.2.2 hL hL2;refine FQ Tryz.func94 ?_;simp only[cu,Nat.zero_add,Nat.reduceAdd]
     repeat' (first|with_reducible (first|refine ab ?_ ?_|exact True.intro|refine DQ ?_|assumption)|((with_reducible apply aC);refine iq [0] (hD) rfl rfl rfl rfl rfl rfl rfl rfl rfl rfl rfl rfl rfl ?_)|((with_reducible apply av);refine aq rfl ?_ ?_;all_goals (intro hbq;(try simp only[bq,and_true,true_and,and_false,false_and,or_true,true_or,or_false,false_or,not_true_eq_false,not_false_eq_true,Bool.true_eq_false,Bool.false_eq_true,q0,q1] at hbq);(try (exfalso;omega))))|with_reducible (first|refine ay ?_|refine aD ?_)|refine RQ ?_|(intro (hgq:(_:Bool)=true);(try simp only[bq] at hgq))|(intro (hgq:(_:Bool)=false);(try simp only[bq] at hgq))|((with_reducible apply aL);exact fun _=>⟨rfl,rfl⟩)|((with_reducible apply cH);simp only[bq])|omega)
     ·rfl
     ·
      repeat' (first|with_reducible (first|refine KQ ?_|refine ab ?_ ?_|exact True.intro)|fail)
    ·cases h
   ·cases h
 |[k,a,b,c,d,e,f],h=>
  have hn:ws.length=7:=by rw[← htl];rfl
  have hw:w.length=7:=by rw[hwl,hn]
  have h0:(w.getD (0:Int).toNat dW).tx=bL k:=hg 0 (by omega);have h1:(w.getD (1:Int).toNat dW).tx=bL a:=hg 1 (by omega);have h2:(w.getD (2:Int).toNat dW).tx=bL b:=hg 2 (by omega);have h3:(w.getD (3:Int).toNat dW).tx=bL c:=hg 3 (by omega);have h4:(w.getD (4:Int).toNat dW).tx=bL d:=hg 4 (by omega);have h5:(w.getD (5:Int).toNat dW).tx=bL e:=hg 5 (by omega);have h6:(w.getD (6:Int).toNat dW).tx=bL f:=hg 6 (by omega);simp only at h
  split at h
  ·rename_i hk
   injection h with h;subst h;obtain ⟨hk,he,hnn,hp⟩:=hk;simp only[Bool.and_eq_true] at hnn;rw[hk] at h0;rw[he] at h5;have q0:((w.getD (0:Int).toNat { tx:={ data:= #[] },ln:=0,co:=0 }).tx.toList==ByteArray.toList ⟨#[115,101,99,116,105,111,110]⟩)=true:=RZ h0;have hD:=yN L w a b c d [97,116] f hw h1 h2 h3 h4 h5 h6 hnn.1.1 hnn.1.2 hnn.2 hp hL hS;refine FQ Tryz.func94 ?_;simp only[cu,Nat.zero_add,Nat.reduceAdd]
   repeat' (first|with_reducible (first|refine ab ?_ ?_|exact True.intro|refine DQ ?_|assumption)|((with_reducible apply aC);refine iq [0] (hD) rfl rfl rfl rfl rfl rfl rfl rfl rfl rfl rfl rfl rfl ?_)|((with_reducible apply av);refine aq rfl ?_ ?_;all_goals (intro hbq;(try simp only[bq,and_true,true_and,and_false,false_and,or_true,true_or,or_false,false_or,not_true_eq_false,not_false_eq_true,Bool.true_eq_false,Bool.false_eq_true,q0] at hbq);(try (exfalso;omega))))|with_reducible (first|refine ay ?_|refine aD ?_)|refine RQ ?_|(intro (hgq:(_:Bool)=true);(try simp only[bq] at hgq))|(intro (hgq:(_:Bool)=false);(try simp only[bq] at hgq))|((with_reducible apply aL);exact fun _=>⟨rfl,rfl⟩)|((with_reducible apply cH);simp only[bq])|omega)
   ·rfl
   ·
    repeat' (first|with_reducible (first|refine KQ ?_|refine ab ?_ ?_|exact True.intro)|fail)
  ·cases h
end Go.Proofs.YtjkeeocnekggfaaGreat.Av
namespace Go.Proofs.YtjkeeocnekggfaaGreat.Av
def Qc:Nat->List UInt8->Int->Bool
 |0,_,_=>true
 |n+1,s,ln=>if s=[] then true else DI (s.take (gk s))&&decide ((vW (s.take (gk s)) ln).length<=64)&&Qc n (s.drop (gk s+1)) (ln+1)
theorem u5: ∀ {s:List UInt8} {m:Nat},m<=s.length->(∀ k,k<m->s.getD k 0≠10)->(m=s.length\/s.getD m 0=10)->gk s=m
 |[],m,h,_,_=>by simp at h;subst h;rfl
 |b::s,0,_,_,h=>by
  rcases h with h|h
  ·cases h
  ·have h:b=10:=h
   subst h;rfl
 |b::s,m+1,h,hn,hm=>by
  have hb:b≠10:=hn 0 (by omega);have ih:=u5 (s:=s) (m:=m) (by simpa using h) (fun k hk=>hn (k+1) (by omega)) (by simpa using hm);unfold gk at ih⊢
  rw[List.takeWhile_cons,if_pos (by simpa using hb),List.length_cons,ih]
theorem C1 (s:List UInt8) (i j:Nat):(bL s).extract i j=bL ((s.drop i).take (j-i)):=by
 apply ByteArray.ext;rw[ByteArray.data_extract];apply Array.ext';rw[Array.toList_extract];show List.extract s i j=_
 rw[List.extract_eq_take_drop];rfl
structure Ts where
 i:Nat
 ln:Nat
 out:List (List PW)
theorem u6: ∀ (n:Nat) (s:List UInt8) (ln:Int),(fX n s ln).length<=s.length
 |0,s,ln=>Nat.zero_le _
 |n+1,s,ln=>by
  unfold fX;split
  ·simp
  ·rename_i hs
   have ih:=u6 n (s.drop (gk s+1)) (ln+1);rw[List.length_drop] at ih
   have h0:0<s.length:=List.length_pos_iff.2 hs;simp only[List.length_append];split<;>simp only[List.length_nil,List.length_cons]<;>omega
theorem JF (s:List UInt8) (hs:s.length<=65536) (hok:Qc (s.length+1) s 1=true):cd Tryz.prog 93 [vS (bL s)] [] (.cC [.c (Tq ((fX (s.length+1) s 1).map fun l=>l.map PW.w)),.c (xI 0),.c (xI 0)]) []:=by
 have hz:(bL s).size=s.length:=rfl;have htot:=u6 (s.length+1) s 1;generalize hT:fX (s.length+1) s 1=T at*
 refine FQ Tryz.func93 ?_;simp only[cu,Nat.zero_add,Nat.reduceAdd]
 repeat' (first|with_reducible (first|refine ab ?_ ?_|exact True.intro)|((with_reducible apply bH);intro hbq;(try simp only[bq] at hbq);(try (exfalso;omega)))|refine RQ ?_|fail)
 refine aH (fun g:Ts=>SS [sS 0 (bL s),sC 5 (.tipr 1 RT Tf (fun _=>none) [] (g.out.map fun l=>l.map PW.w)),sI 6 g.ln,sI 7 g.i] []) (fun g=>g.i<=s.length+1/\g.ln<=g.i+1/\ ∃ n,(s.drop g.i).length<n/\g.out++fX n (s.drop g.i) g.ln=T/\Qc n (s.drop g.i) g.ln=true) (fun g=>s.length+1-g.i) ⟨0,1,[]⟩ ?_ ⟨by simp,by simp,s.length+1,by simp,by simpa using hT,by simpa using hok⟩ ?_
 ·
  refine WQ ?_ ?_<;>repeat' (first|with_reducible (first|refine KQ ?_|refine ab ?_ ?_|exact True.intro)|refine ax rfl ?_ ?_|exact aE.ah|exact aE.ao|exact aE.al|refine aN.cells ?_ ?_|refine aN.bF ?_ ?_|refine cg.cons ?_ ?_|exact (rfl:known _=_)|exact (rfl:aF _=true)|with_reducible rfl|omega)
  all_goals rfl
 rintro ⟨i,ln,out⟩ ⟨hi,hln,n,hn,hout,hokn⟩;simp only at hi hln hout hokn hn
 have hol:out.length<=65536:=by
  have:=congrArg List.length hout;rw[List.length_append] at this
  omega
 by_cases hil:i<s.length
 ·obtain ⟨n,rfl⟩: ∃ m,n=m+1:=⟨n-1,by omega⟩
  have hne:s.drop i≠[]:=fun e=>by
   have:=congrArg List.length e;rw[List.length_drop] at this
   simp at this;omega
  have hlF:fX (n+1) (s.drop i) ln=(if vW ((s.drop i).take (gk (s.drop i))) ln=[] then [] else [vW ((s.drop i).take (gk (s.drop i))) ln])++fX n ((s.drop i).drop (gk (s.drop i)+1)) (ln+1):=by
   conv=>lhs;unfold fX
   rw[if_neg hne]
  unfold Qc at hokn;rw[if_neg hne] at hokn;simp only[Bool.and_eq_true,decide_eq_true_eq] at hokn;obtain ⟨⟨ho1,ho2⟩,ho3⟩:=hokn;rw[hlF] at hout;clear hlF
  repeat' (first|with_reducible (first|refine ab ?_ ?_|exact True.intro)|((with_reducible apply bH);intro hbq;(try simp only[bq] at hbq);(try (exfalso;omega)))|refine RQ ?_|fail)
  refine aH (fun j:Nat=>SS [sS 0 (bL s),sC 5 (.tipr 1 RT Tf (fun _=>none) [] (out.map fun l=>l.map PW.w)),sI 6 ln,sI 7 i,sI 8 j] []) (fun j=>i<=j/\j<=s.length/\ ∀ k,i<=k->k<j->s.getD k 0≠10) (fun j=>s.length-j) i ?_ ⟨by omega,by omega,fun k h1 h2=>by omega⟩ ?_
  ·
   refine WQ ?_ ?_<;>repeat' (first|with_reducible (first|refine KQ ?_|refine ab ?_ ?_|exact True.intro)|refine ax rfl ?_ ?_|exact aE.ah|exact aE.ao|exact aE.al|refine aN.cells ?_ ?_|refine aN.bF ?_ ?_|refine cg.cons ?_ ?_|exact (rfl:known _=_)|exact (rfl:aF _=true)|with_reducible rfl|omega)
  rintro j ⟨hj1,hj2,hj3⟩;have e2:(bL s).data.getD (j:Int).toNat 0=s.getD j 0:=yE s j;by_cases hx:j<s.length/\s.getD j 0≠10
  ·have hx2:((bL s).data.getD (j:Int).toNat 0).toNat≠10:=fun e=>hx.2 (by rw[← e2];exact UInt8.toNat_inj.1 e)
   obtain ⟨hx1,_⟩:=hx;have hj4: ∀ k,i<=k->k<j+1->s.getD k 0≠10:=fun k h1 h2=>by
    rcases Nat.lt_succ_iff_lt_or_eq.1 h2 with h|h
    ·exact hj3 k h1 h
    ·rw[h];intro e;exact hx2 (by rw[e2,e];rfl)
   repeat' (first|with_reducible (first|refine ab ?_ ?_|exact True.intro|assumption)|((with_reducible apply bH);intro hbq;(try simp only[bq] at hbq);(try (exfalso;omega)))|refine RQ ?_|(intro (hgq:(_:Bool)=true);(try simp only[bq] at hgq))|((with_reducible apply cH);simp only[bq])|omega)
   ·
    refine az (j+1) ?_ (⟨by omega,by omega,hj4⟩) (by (try dsimp only);omega);refine WQ ?_ ?_<;>repeat' (first|with_reducible (first|refine KQ ?_|refine ab ?_ ?_|exact True.intro)|refine ax rfl ?_ ?_|exact aE.ah|exact aE.ao|exact aE.al|refine aN.cells ?_ ?_|refine aN.bF ?_ ?_|refine cg.cons ?_ ?_|exact (rfl:known _=_)|exact (rfl:aF _=true)|with_reducible rfl|omega)
  ·have hx2:s.length<=j\/((bL s).data.getD (j:Int).toNat 0).toNat=10:=by
    rcases Nat.lt_or_ge j s.length with h|h
    ·right
     rw[e2];have:s.getD j 0=10:=by
      rcases Classical.em (s.getD j 0=10) with h2|h2
      ·exact h2
      ·exact absurd ⟨h,h2⟩ hx
     rw[this];rfl
    ·exact .inl h
   have hLL:gk (s.drop i)=j-i:=by
    refine u5 (by rw[List.length_drop];omega) (fun k hk=> ?_) ?_
    ·have:=hj3 (i+k) (by omega) (by omega)
     rw[List.getD_eq_getElem?_getD,List.getElem?_drop,← List.getD_eq_getElem?_getD];exact this
    ·rcases hx2 with h|h
     ·left;rw[List.length_drop];omega
     ·right
      rw[e2] at h;rw[List.getD_eq_getElem?_getD,List.getElem?_drop,← List.getD_eq_getElem?_getD,show i+(j-i)=j by omega];exact UInt8.toNat_inj.1 h
   rw[hLL] at ho1 ho2 ho3 hout;have hO:=Pw ((s.drop i).take (j-i)) ln ho1 (by rw[List.length_take,List.length_drop];omega) ho2;have hex:(bL s).extract (i:Int).toNat (j:Int).toNat=bL ((s.drop i).take (j-i)):=C1 s i j;rw[← hex] at hO;have hdd:(s.drop i).drop (j-i+1)=s.drop (j+1):=by rw[List.drop_drop];congr 1;omega
   rw[hdd] at ho3 hout;generalize vW ((s.drop i).take (j-i)) ln=ws at*;have hwl:(ws.map PW.w).length=ws.length:=by simp
   have hom:(out.map fun l=>l.map PW.w).length=out.length:=by simp
   have hnn:(s.drop (j+1)).length<n:=by
    rw[List.length_drop] at hn⊢;omega
   by_cases hws:ws=[]
   ·rw[hws,if_pos rfl,List.nil_append] at hout
    have hw0:ws.length=0:=by rw[hws];rfl
    repeat' (first|with_reducible (first|refine ab ?_ ?_|exact True.intro|refine DQ ?_|assumption)|((with_reducible apply aC);refine an (hO) rfl ?_)|((with_reducible apply bH);intro hbq;(try simp only[bq] at hbq);(try (exfalso;omega)))|refine RQ ?_|(intro (hgq:(_:Bool)=true);(try simp only[bq] at hgq))|((with_reducible apply cH);simp only[bq])|omega)
    ·
     refine az (⟨j+1,ln+1,out⟩) ?_ (⟨by simp only;omega,by simp only;omega,n,hnn,hout,ho3⟩) (by (try dsimp only);omega);refine WQ ?_ ?_<;>repeat' (first|with_reducible (first|refine KQ ?_|refine ab ?_ ?_|exact True.intro)|refine ax rfl ?_ ?_|exact aE.ah|exact aE.ao|exact aE.al|refine aN.cells ?_ ?_|refine aN.bF ?_ ?_|refine cg.cons ?_ ?_|exact (rfl:known _=_)|exact (rfl:aF _=true)|with_reducible rfl|omega)
     all_goals rfl
   ·rw[if_neg hws] at hout
    have hw0:0<ws.length:=List.length_pos_iff.2 hws
    repeat' (first|with_reducible (first|refine ab ?_ ?_|exact True.intro|refine DQ ?_|assumption)|((with_reducible apply aC);refine an (hO) rfl ?_)|((with_reducible apply bH);intro hbq;(try simp only[bq] at hbq);(try (exfalso;omega)))|refine RQ ?_|(intro (hgq:(_:Bool)=true);(try simp only[bq] at hgq))|((with_reducible apply cH);simp only[bq])|((with_reducible apply db);rfl)|omega)
    ·
     refine az (⟨j+1,ln+1,out++[ws]⟩) ?_ (⟨by simp only;omega,by simp only;omega,n,hnn,by rw[List.append_assoc];exact hout,ho3⟩) (by (try dsimp only);omega);refine WQ ?_ ?_<;>repeat' (first|with_reducible (first|refine KQ ?_|refine ab ?_ ?_|exact True.intro)|refine ax rfl ?_ ?_|exact aE.ah|exact aE.ao|exact aE.al|refine aN.cells ?_ ?_|refine aN.bF ?_ ?_|refine cg.cons ?_ ?_|exact (rfl:known _=_)|exact (rfl:aF _=true)|with_reducible rfl|omega)
     all_goals first
      |rfl
      |simp[RT]
 ·have hd:s.drop i=[]:=List.drop_eq_nil_of_le (by omega)
  have hTo:out=T:=by
   rw[hd] at hout;have:fX n [] ln=[]:=by cases n<;>simp[fX]
   rw[this,List.append_nil] at hout;exact hout
  repeat' (first|with_reducible (first|refine ab ?_ ?_|exact True.intro|exact bu.nil _|refine DQ ?_|fail)|((with_reducible apply bH);intro hbq;(try simp only[bq] at hbq);(try (exfalso;omega)))|refine RQ ?_|fail)
  ·rw[hTo]
   repeat' (first|with_reducible (first|refine KQ ?_|refine ab ?_ ?_|exact True.intro)|refine mB.cC ?_)
theorem Gw {L L':bJ} {ws:List PW} (h:AQ L ws=some L'):L'.secs.length<=L.secs.length+1/\L'.lnks.length<=L.lnks.length+1/\L'.sts.length<=L.sts.length+1:=by
 unfold AQ at h;split at h
 ·split at h
  ·injection h with h;subst h;simp
  ·cases h
 ·split at h
  ·split at h
   ·injection h with h;subst h;simp
   ·cases h
  ·split at h
   ·split at h
    ·injection h with h;subst h;simp
    ·cases h
   ·cases h
 ·split at h
  ·injection h with h;subst h;simp
  ·cases h
 ·cases h
abbrev RD (L:bJ):ST:= .agg [ed L.sts,ed L.pts,mJ L.secs,kC L.lnks]
structure Tt where
 i:Nat
 L:bJ
theorem J5 (s:List UInt8) (L:bJ) (hs:s.length<=65536) (hok:Qc (s.length+1) s 1=true) (hL:DL s=some L) (hn:(fX (s.length+1) s 1).length<=500) (he:bB L=0) (hF:bZ L):cd Tryz.prog 56 [vS (bL s)] [] (.cC [RD L,.c (xI 0),.c (xI 0)]) []:=by
 have hLn:=JF s hs hok;unfold DL at hL
 have hC:=qs L hF;rw[he] at hC
 unfold bK at hC;generalize fX (s.length+1) s 1=T at*;have hml:(T.map fun l=>l.map PW.w).length=T.length:=by simp
 refine FQ Tryz.func56 ?_;simp only[cu,Nat.zero_add,Nat.reduceAdd]
 repeat' (first|with_reducible (first|refine ab ?_ ?_|exact True.intro|refine DQ ?_|fail)|((with_reducible apply aC);refine an (hLn) rfl ?_)|((with_reducible apply bH);intro hbq;(try simp only[bq] at hbq);(try (exfalso;omega)))|refine RQ ?_|fail)
 clear hLn hok hs;refine aH (fun g:Tt=>SS [sC 2 (pB 0),sC 5 (Tq (T.map fun l=>l.map PW.w)),sC 8 (pB 1),sI 9 g.i] [some (.cells [.c (.f .nils),.c (.f .nils),.c (.f .nils),.c (.f .nils)]),pL g.L]) (fun g=>g.i<=T.length/\uF g.L (T.drop g.i)=some L/\g.L.secs.length<=g.i/\g.L.lnks.length<=g.i/\g.L.sts.length<=g.i) (fun g=>T.length-g.i) ⟨0,⟨[],[],[],[]⟩⟩ ?_ ⟨by simp,by simpa using hL,by simp,by simp,by simp⟩ ?_
 ·
  refine WQ ?_ ?_<;>repeat' (first|with_reducible (first|refine KQ ?_|refine ab ?_ ?_|exact True.intro)|refine ax rfl ?_ ?_|exact aE.ah|exact aE.ao|exact aE.al|refine aN.cells ?_ ?_|refine aN.bF ?_ ?_|refine cg.cons ?_ ?_|exact (rfl:known _=_)|exact (rfl:aF _=true)|with_reducible rfl|omega)
  all_goals rfl
 rintro ⟨i,M⟩ ⟨hi,hM,hm1,hm2,hm3⟩;simp only at hi hM hm1 hm2 hm3
 by_cases hil:i<T.length
 ·have hd:T.drop i=T.getD i []::T.drop (i+1):=by
   rw[List.drop_eq_getElem_cons hil,List.getD_eq_getElem?_getD,List.getElem?_eq_getElem hil];rfl
  rw[hd] at hM;unfold uF at hM;split at hM
  ·rename_i L' hL'
   have hlen:=Gw hL';have hg:(T.map fun l=>l.map PW.w).getD (i:Int).toNat []=(T.getD i []).map PW.w:=by
    simp[List.getD_eq_getElem?_getD,List.getElem?_map,List.getElem?_eq_getElem hil]
   have hD:=Dc M L' (T.getD i []) hL' (by omega) (by omega) (by omega);rw[← hg] at hD
   repeat' (first|with_reducible (first|exact VQ|refine ab ?_ ?_|exact True.intro|refine DQ ?_|assumption)|((with_reducible apply aC);refine iq [1] (hD) rfl rfl rfl rfl rfl rfl rfl rfl rfl rfl rfl rfl rfl ?_)|((with_reducible apply bH);intro hbq;(try simp only[bq] at hbq);(try (exfalso;omega)))|refine RQ ?_|omega|(dsimp only;omega))
   ·
    refine az (⟨i+1,L'⟩) ?_ (⟨by simp only;omega,hM,by simp only;omega,by simp only;omega,by simp only;omega⟩) (by (try dsimp only);omega);refine WQ ?_ ?_<;>repeat' (first|with_reducible (first|refine KQ ?_|refine ab ?_ ?_|exact True.intro)|refine ax rfl ?_ ?_|exact aE.ah|exact aE.ao|exact aE.al|refine aN.cells ?_ ?_|refine aN.bF ?_ ?_|refine cg.cons ?_ ?_|exact (rfl:known _=_)|exact (rfl:aF _=true)|with_reducible rfl|omega)
    ·rfl
  ·cases hM
 ·have hie:i=T.length:=by omega
  subst hie;have hML:M=L:=by
   rw[List.drop_length] at hM;unfold uF at hM;injection hM
  subst hML
  repeat' (first|with_reducible (first|refine ab ?_ ?_|exact True.intro|exact bu.nil _|refine DQ ?_|fail)|((with_reducible apply aC);refine an (hC) rfl ?_)|((with_reducible apply bH);intro hbq;(try simp only[bq] at hbq);(try (exfalso;omega)))|refine RQ ?_|fail)
  ·rfl
def lU:List UInt8:=[115,116,97,116,105,111,110,32,83,10,115,101,99,116,105,111,110,32,65,32,52,48,32,51,48,48,48,48,32,48,10,115,101,99,116,105,111,110,32,66,32,50,48,32,51,48,48,48,48,32,48,32,97,116,32,83,10,108,105,110,107,32,65,32,66,32,66,32,65,10]
def AX:bJ:=⟨[bL [83]],[],[⟨bL [65],40,30000,0,-1⟩,⟨bL [66],20,30000,0,0⟩],[⟨0,1,1,0,-1,0⟩]⟩
def dg:dO:=⟨AX,[⟨⟨#[]⟩,20,30000,500,500⟩],[⟨[⟨0,0⟩,⟨1,0⟩],0⟩],[⟨0,[⟨0,100,0⟩]⟩]⟩
theorem q9:bZ AX:=⟨fun x hx=>(by
 simp only[AX,List.mem_cons,List.not_mem_nil,or_false] at hx;subst hx;decide),fun x hx=>(by cases hx),fun x hx=>(by
 simp only[AX,List.map_cons,List.map_nil,List.mem_cons,List.not_mem_nil,or_false] at hx;rcases hx with rfl|rfl<;>decide),by decide,by decide,by decide,by decide⟩
theorem iN:fk dg:=⟨q9,by decide,by decide,by decide,fun r hr=>(by
 simp only[dg,List.mem_cons,List.not_mem_nil,or_false] at hr;subst hr;decide),fun m hm=>(by
 simp only[dg,List.mem_cons,List.not_mem_nil,or_false] at hm;subst hm;decide)⟩
theorem L9:bB AX=0:=by kernel_rfl
theorem GC:DL lU=some AX:=by kernel_rfl
theorem GB:Qc (lU.length+1) lU 1=true:=by kernel_rfl
theorem Jl:(fX (lU.length+1) lU 1).length<=500:=by
 have h:(fX (lU.length+1) lU 1).length=4:=by kernel_rfl
 omega
theorem E3:kq dg=0:=by kernel_rfl
theorem uJ: ∃ (a b:Int) (x y z:List Int) (v:Int),0<gF dg (iW dg) 0 0/\gF dg (iW dg) 0 0<=80001/\cd Tryz.prog 21 [gi dg,vI 0,vI 0] [] (.agg (kZ a b x y z v (gF dg (iW dg) 0 0))) []:=by
 have w:=L1 E3;have htl:0<dg.ms.length:=by decide
 have hkl:0<(dg.ms.getD 0 bz).du.length:=by decide
 have hd:=m5 (w.d0 0 htl 0 hkl);have hsk:=w.sk 0 htl;obtain ⟨g1,g2,g3,g4,g5,g6⟩:=ni hd.1;have hr:0<=(fG dg 0 0).rt/\(fG dg 0 0).rt<dg.rt.length:=⟨g1,g2⟩;have hk1:=cJ (pb w.rte hr);have kl:=hk1.len;have k1:=hk1.ov;have k2:=hk1.two;have k3:=hk1.ov0;simp only at kl k1 k2 k3
 have hla:((qd (ft dg (fG dg 0 0).rt):Nat):Int)=(ft dg (fG dg 0 0).rt).st.length-(ft dg (fG dg 0 0).rt).ov-1:=by unfold qd;omega
 have hmot:eV dg.L ⟨(ft dg (fG dg 0 0).rt).st,(ft dg (fG dg 0 0).rt).ov⟩ (cX dg (dg.ms.getD 0 bz).sk).len (cX dg (dg.ms.getD 0 bz).sk).sp (cX dg (dg.ms.getD 0 bz).sk).ac (cX dg (dg.ms.getD 0 bz).sk).br=0:=by rw[← Fs w.rte hr];exact hd.2
 have hM:=Ke dg.L q9 (ft dg (fG dg 0 0).rt).st (ft dg (fG dg 0 0).rt).ov (by omega) (by omega) (cX dg (dg.ms.getD 0 bz).sk).nm (cX dg (dg.ms.getD 0 bz).sk).len (cX dg (dg.ms.getD 0 bz).sk).sp (cX dg (dg.ms.getD 0 bz).sk).ac (cX dg (dg.ms.getD 0 bz).sk).br 0 (qd (ft dg (fG dg 0 0).rt)) hmot (by omega) (by omega);rw[rB hla,hla] at hM
 unfold Bk at hM;rw[show lC dg.L ⟨(ft dg (fG dg 0 0).rt).st,(ft dg (fG dg 0 0).rt).ov⟩ (cX dg (dg.ms.getD 0 bz).sk).len (cX dg (dg.ms.getD 0 bz).sk).sp (cX dg (dg.ms.getD 0 bz).sk).ac (cX dg (dg.ms.getD 0 bz).sk).br=gF dg (iW dg) (fG dg 0 0).rt (dg.ms.getD 0 bz).sk from (FI w.rte hr _).symm] at hM;have hF:=GK dg 0 0 htl hkl hr hsk (by omega) (by omega) _ _ _ _ _ _ _ _ hM;have hB:=(I0 iN w (at_:=0) (Int.le_refl _) htl hkl).run;exact ⟨_,_,_,_,_,_,hB.1,hB.2,hF⟩
abbrev NY (L:bJ):List SC:=[ed L.sts,ed L.pts,mJ L.secs,kC L.lnks,.c (.f (.row [fS ⟨#[]⟩,fI 20,fI 30000,fI 500,fI 500] 1)),.c (.f (.row [.row [fI 0,fI 0,fI 1,fI 0] 2,fI 0] 1)),.c (.f (.row [fI 0,.row [fI 0,fI 100,fI 0] 1] 1))]
theorem sd:cd Tryz.prog 24 [] [] (.cC [.agg (lZ dg),.c (xI (gF dg (iW dg) 0 0))]) []:=by
 have hP:=J5 lU AX (by decide) GB GC Jl L9 q9;obtain ⟨a,b,x,y,z,v,_,_,hF⟩:=uJ;generalize gF dg (iW dg) 0 0=R at*
 unfold dg at*;generalize AX=L at*;unfold lU at hP;unfold gi at hF;have hF2:cd Tryz.prog 21 [.agg (NY L),vI 0,vI 0] [] (.agg (kZ a b x y z v R)) []:=hF;unfold NY at hF2;refine PQ Tryz.func24 ?_;simp only[cu,Nat.zero_add,Nat.reduceAdd]
 repeat' (first|with_reducible (first|exact BQ|refine ab ?_ ?_|exact True.intro|refine DQ ?_|fail)|((with_reducible apply aC);first|refine an (hP) rfl ?_|refine an (hF2) rfl ?_)|with_reducible (refine ay ?_)|refine RQ ?_)
 all_goals rfl
theorem E0:kI dg dg.ms.length 0=[[⟨0,100,0,0,1,gF dg (iW dg) 0 0,0,0,false,false⟩]]:=rfl
theorem m8 (at_:Int) (h:0<=at_/\at_<=4194304):gW dg at_=0:=by
 unfold gW;rw[if_neg (by rw[E3];decide),if_neg (by omega)]
theorem y8 (at_:Int) (h:0<=at_/\at_<=4194304):kB dg [] at_=[[dq at_ 0 0 ⟨0,100,0,0,1,gF dg (iW dg) 0 0,0,0,false,false⟩]]:=by
 unfold kB;rw[if_pos (m8 at_ h),E0];rfl
theorem Ma:kB dg [⟨110,8,0,0,0,0⟩] 120=[[dq 120 0 0 ⟨0,100,0,0,1,gF dg (iW dg) 0 0,110,0,true,false⟩]]:=by
 unfold kB;rw[if_pos (m8 120 (by omega)),E0];rfl
theorem GA:cd Tryz.prog 15 [] [] (vB true) []:=by
 have hE:=sd;obtain ⟨_,_,_,_,_,_,q1,q2,_⟩:=uJ;have h1:=oI dg iN [] (by decide) (fun r hr=>by cases hr) 40;have h2:=oI dg iN [] (by decide) (fun r hr=>by cases hr) 120;have h3:=oI dg iN [⟨110,8,0,0,0,0⟩] (by show (1:Nat)<=_;decide) (fun r hr=>by rw[List.mem_singleton.1 hr];decide) 120;rw[if_pos (m8 40 (by omega)),m8 40 (by omega),y8 40 (by omega)] at h1
 rw[if_pos (m8 120 (by omega)),m8 120 (by omega),y8 120 (by omega)] at h2;rw[if_pos (m8 120 (by omega)),m8 120 (by omega),Ma] at h3;generalize gF dg (iW dg) 0 0=R at*;have e1:oS (dq 40 0 0 ⟨0,100,0,0,1,R,0,0,false,false⟩)=⟨100,100+R,false,false⟩:=by
  simp[oS,dq];omega
 have e2:oS (dq 120 0 0 ⟨0,100,0,0,1,R,0,0,false,false⟩)=⟨121,121+R,false,false⟩:=by
  simp[oS,dq];omega
 have e3:oS (dq 120 0 0 ⟨0,100,0,0,1,R,110,0,true,false⟩)=⟨110,max 121 (110+R),true,false⟩:=by
  simp[oS,dq]
 simp only[List.map_cons,List.map_nil,e1,e2,e3] at h1 h2 h3;have s1:=mq [[⟨100,100+R,false,false⟩]] (by show (1:Nat)<=_;decide) (fun i=>by cases i<;>simp);have s2:=mq [[⟨121,121+R,false,false⟩]] (by show (1:Nat)<=_;decide) (fun i=>by cases i<;>simp);have s3:=mq [[⟨110,max 121 (110+R),true,false⟩]] (by show (1:Nat)<=_;decide) (fun i=>by cases i<;>simp);have s1:cd Tryz.prog 37 [.c (nA [[⟨100,100+R,false,false⟩]]),.c (.c (.f (.row [.row [fI 100,fI (100+R),fB false,fB false] 1] 1)))] [] (vB true) []:=s1;have s2:cd Tryz.prog 37 [.c (nA [[⟨121,121+R,false,false⟩]]),.c (.c (.f (.row [.row [fI 121,fI (121+R),fB false,fB false] 1] 1)))] [] (vB true) []:=s2;have s3:cd Tryz.prog 37 [.c (nA [[⟨110,max 121 (110+R),true,false⟩]]),.c (.c (.f (.row [.row [fI 110,fI (max 121 (110+R)),fB true,fB false] 1] 1)))] [] (vB true) []:=s3;unfold gi at h1 h2 h3;have h1:cd Tryz.prog 13 [.agg (lZ dg),.c (.c (.f (.row [] 0))),vI 40] [] (.cC [.c (nA [[⟨100,100+R,false,false⟩]]),.c (xI 0)]) []:=h1;have h2:cd Tryz.prog 13 [.agg (lZ dg),.c (.c (.f (.row [] 0))),vI 120] [] (.cC [.c (nA [[⟨121,121+R,false,false⟩]]),.c (xI 0)]) []:=h2;have h3:cd Tryz.prog 13 [.agg (lZ dg),.c (.c (.f (.row [fI 110,fI 8,fI 0,fI 0,fI 0,fI 0] 1))),vI 120] [] (.cC [.c (nA [[⟨110,max 121 (110+R),true,false⟩]]),.c (xI 0)]) []:=h3;generalize [[(⟨100,100+R,false,false⟩:Eo)]]=A1 at*;generalize [[(⟨121,121+R,false,false⟩:Eo)]]=A2 at*;generalize [[(⟨110,max 121 (110+R),true,false⟩:Eo)]]=A3 at*;clear e1 e2 e3;generalize dg=C at*;refine PQ Tryz.func15 ?_;simp only[cu,Nat.zero_add,Nat.reduceAdd]
 repeat' (first|with_reducible (first|refine ab ?_ ?_|exact True.intro|refine DQ ?_|fail)|((with_reducible apply aC);first|refine an (hE) rfl ?_|refine an (h1) rfl ?_|refine an (h2) rfl ?_|refine an (h3) rfl ?_)|((with_reducible apply aZ);refine aX ((fun _=>s1)) rfl ?_ ?_)|((with_reducible apply aZ);refine aX ((fun _=>s2)) rfl ?_ ?_)|((with_reducible apply aZ);refine aX ((fun _=>s3)) rfl ?_ ?_)|with_reducible (refine ay ?_)|refine RQ ?_|(intro (hgq:(_:Bool)=true);(try simp only[bq] at hgq))|((with_reducible apply cH);simp only[bq])|omega)
 all_goals rfl
theorem kj {P:Program} {ops:Array Oper} {o:Oper} {rest:List Oper} {s:St} {K:St->Prop} (hw:cK ops s o=some true) {α:Type} (F:α->St) (h1: ∀ x,s.H.length<=(F x).H.length) (h2: ∀ (a:Act) (w:World) (κ:Nat->BK) (ρ:Nat->Nat),Rel s a w κ ρ->(∀ t,o.dst=some t->t<a.tmps.size)-> ∀ (next:Act->World->Prop) (Q:Exit->Act->World->Prop),(∀ x a' w' κ' ρ',Rel (F x) a' w' κ' ρ'->Fr w κ w' κ'->(∀ b,b<s.H.length->ρ' b=ρ b)->a'.tmps.size=a.tmps.size->next a' w')->o.wp P a w next Q) (h3: ∀ x,WR P ops rest (F x) (.plain K)):WR P ops (o::rest) s (.plain K):=
 ⟨.inr (.inr (.inr (.inr ⟨hw,α,F,h1,h2,fun x=>(h3 x).out⟩)))⟩
section
variable {s:St} {a:Act} {w:World} {κ:Nat->BK} {ρ:Nat->Nat}
theorem Rel.less (h:Rel s a w κ ρ) {s3:St} {n:Nat} (hn:n<=s.H.length) (hH:s3.H=s.H.take n) (hs: ∀ i,s3.sl i=s.sl i\/s3.sl i= .c .any) (hok: ∀ i,(s3.sl i).ok n=true) (hB:(s.H.take n).all (okB n)=true):Rel s3 a w κ ρ:=by
 have hlen:s3.H.length=n:=by rw[hH,List.length_take];omega
 refine ⟨h.defers,fun i hi'=> ?_,fun i hi=> ?_,fun i=>by rw[hlen];exact hok i,⟨fun b cs hb=> ?_,fun b cs hb x hx=> ?_⟩⟩
 ·rcases hs i with e|e
  ·rw[e];exact h.slot i hi'
  ·rw[e];trivial
 ·rcases hs i with e|e
  ·rw[e];exact h.out i hi
  ·exact e
 ·rw[hH,List.getElem?_take] at hb
  split at hb
  ·exact h.heap.dk b cs hb
  ·cases hb
 ·rw[hlen]
  rw[hH] at hb;exact mf hB hb hx
theorem G5 (h:Rel s a w κ ρ) {t sz len:Nat} {cs:List ag} (ht:s.sl t= .c (.bg false sz cs len)):
    (cs=[]/\len=0/\Rel { s with sl:=dJ s.sl t (.c (.f .nils)) } a w κ ρ)\/ ∃ cap κ' ρ',len<=cap/\cs.length=len*sz/\Rel { sl:=dJ s.sl t (.c (.arr s.H.length 0 len cap)),H:=s.H++[some (cs.map aa.f++List.replicate (cap*sz-cs.length) .any)] } a w κ' ρ'/\Fr w κ w κ'/\ ∀ b',b'<s.H.length->ρ' b'=ρ b':=by
  have htl:t<a.tmps.size:=by
    rcases Nat.lt_or_ge t a.tmps.size with k|k
    · exact k
    · have:=h.out t k
      rw[ht] at this;cases this
  have hv:=h.slot t htl;rw[ht] at hv
  obtain ⟨g,cap,hv,hT⟩|⟨e1,e2,hv⟩:=hv
  · right
    refine ⟨cap,dJ κ g (.wr s.H.length),dJ ρ s.H.length g,hT.le,hT.cut,?_⟩;have hown:=hT.own;have m:Mv (· =g) s.H.length w κ ρ w (dJ κ g (.wr s.H.length)) (dJ ρ s.H.length g):=
      ⟨rfl,rfl,rfl,Nat.le_refl _,fun b hb=>aw _ _ (by omega),fun j _ hj=>⟨rfl,aw _ _ hj⟩,fun _ _ _ _ _ _ hx=>hx,
       fun j n _ hj hf=>by subst hj;rw[aG];rw[hown] at hf;exact hf,fun j n hj=>by subst hj;rw[hown];intro e;cases e⟩
    have hR:=h.zl m hown;obtain ⟨c1,e1,p1,p2⟩:=hT.dk;have hcut:=hT.cut;have hroom:cs.length<=cap*sz:=by rw[hcut];exact Nat.mul_le_mul_right _ hT.le
    have hlen2:(s.H++[some (cs.map aa.f++List.replicate (cap*sz-cs.length) aa.any)]).length=s.H.length+1:=by simp
    have hget: ∀ (b':Nat) (ds:List aa),(s.H++[some (cs.map aa.f++List.replicate (cap*sz-cs.length) aa.any)])[b']? =some (some ds)->(b'<s.H.length/\s.H[b']? =some (some ds))\/(b'=s.H.length/\ds=cs.map aa.f++List.replicate (cap*sz-cs.length) aa.any):=fun b' ds hb'=>by
      rcases Nat.lt_or_ge b' s.H.length with hlt'|hge
      · rw[List.getElem?_append_left hlt'] at hb'
        exact .inl ⟨hlt',hb'⟩
      · have hbe:b'=s.H.length:=by
          rcases Nat.lt_or_ge b' (s.H.length+1) with k|k
          · omega
          · rw[List.getElem?_eq_none (by rw[hlen2];exact k)] at hb';cases hb'
        subst hbe;rw[List.getElem?_append_right (Nat.le_refl _)] at hb';simp at hb';exact .inr ⟨rfl,hb'.symm⟩
    refine ⟨⟨hR.defers,fun i hi'=> ?_,fun i hi=> ?_,fun i=> ?_,⟨fun b' ds hb'=> ?_,fun b' ds hb' x hx=> ?_⟩⟩,m.fr,fun b' hb'=>aw _ _ (by omega)⟩
    · show bM _ _ _ _ (dJ s.sl t _ i) _
      by_cases e:i=t
      · subst e
        rw[aG];show a.tmps[i]= .slice (some ⟨dJ ρ s.H.length g s.H.length,0,none⟩) len cap
        rw[aG];exact hv
      · rw[aw _ _ e]
        have:=hR.slot i hi';simp only[St.aQ] at this
        rw[aw _ _ e] at this;exact this
    · show dJ s.sl t _ i=_
      by_cases e:i=t
      · omega
      · rw[aw _ _ e];exact h.out i hi
    · show ad.ok (List.length _) (dJ s.sl t _ i)=true
      rw[hlen2];by_cases e:i=t
      · subst e
        rw[aG];simp[ad.ok,aa.ok]
      · rw[aw _ _ e]
        exact ad.fT (by omega) _ (h.ok i)
    · rcases hget b' ds hb' with ⟨_,hb2⟩|⟨rfl,rfl⟩
      · exact hR.heap.dk b' ds hb2
      · refine ⟨by rw[aG,aG],.inl ⟨c1,e1,by rw[aG];exact p1,by simp;omega,fun j hj hj'=> ?_⟩⟩
        by_cases hjl:j<cs.length
        · rw[List.getElem_append_left (by simpa using hjl),List.getElem_map]
          obtain ⟨x,hx,hr⟩:=hT.cell j hjl;have:c1[j]=x:=by
            simp only[World.cell?,p1,Nat.zero_add] at hx;simpa[hj'] using hx
          rw[this];exact hr.grow m.grow
        · rw[List.getElem_append_right (by simpa using hjl),List.getElem_replicate]
          trivial
    · show x.ok (List.length _)=true
      rw[hlen2];rcases hget b' ds hb' with ⟨_,hb2⟩|⟨rfl,rfl⟩
      · exact aa.fT (by omega) _ (h.heap.ok b' ds hb2 x hx)
      · rcases List.mem_append.1 hx with hx|hx
        · obtain ⟨y,_,rfl⟩:=List.mem_map.1 hx;rfl
        · rw[(List.mem_replicate.1 hx).2];rfl
  · left
    refine ⟨e1,e2,h.defers,fun i hi'=> ?_,fun i hi=> ?_,fun i=> ?_,h.heap⟩
    · show bM _ _ _ _ (dJ s.sl t _ i) _
      by_cases e:i=t
      · subst e
        rw[aG];exact dR.2 hv
      · rw[aw _ _ e];exact h.slot i hi'
    · show dJ s.sl t _ i=_
      by_cases e:i=t
      · omega
      · rw[aw _ _ e];exact h.out i hi
    · show ad.ok _ (dJ s.sl t _ i)=true
      by_cases e:i=t
      · subst e
        rw[aG];rfl
      · rw[aw _ _ e];exact h.ok i
theorem DK (hR:Rel s a w κ ρ) {b t len cap sz:Nat} {fs:List ag} {pad:List aa} (hb:s.H[b]? =some (some (fs.map aa.f++pad))) (hp0:gE (fs.map aa.f++pad)=true) (ht:s.sl t= .c (.arr b 0 len cap)) (hc:len<=cap) (hl:fs.length=len*sz) (hp:(fs.map aa.f++pad).length=cap*sz):
  ∃ κ',Rel { sl:=dJ s.sl t (.c (.bg false sz fs len)),H:=s.H.set b none } a w κ' ρ/\Fr w κ w κ':=by
 have htl:t<a.tmps.size:=by
  rcases Nat.lt_or_ge t a.tmps.size with k|k
  ·exact k
  ·have:=hR.out t k
   rw[ht] at this;cases this
 have hB:=hR.heap.dk b _ hb;have ho:=hB.own;have hlie:=hB.JE hp0;obtain ⟨cB,eB,hB1,hB2,hB3⟩:=hlie;have hlt:ρ b<w.heap.size:=jL hB1;have hG:fu w κ w (dJ κ (ρ b) (.bg (tE false fs.length) (.slot t))):=⟨Nat.le_refl _,fun _ _ _ _ _ h=>h,fun g n hg hf=>by
  by_cases e:g=ρ b
  ·subst e
   rw[ho] at hf;rw[aG];exact Nat.le_trans hf (Nat.zero_le _)
  ·rw[aw _ _ e];exact hf⟩
 have hK: ∀ l,yd w κ w (dJ κ (ρ b) (.bg (tE false fs.length) (.slot t))) l l:=fun l=>⟨hG,fun g n hg hk=>⟨by
  rw[aw _ _ (fun e=>by rw[e,ho] at hk;cases hk)];exact hk,rfl⟩⟩
 have hF:Fr w κ w (dJ κ (ρ b) (.bg (tE false fs.length) (.slot t))):=⟨rfl,rfl,rfl,Nat.le_refl _,fun g n hg hk=>⟨by
  rw[aw _ _ (fun e=>by rw[e,ho] at hk;cases hk)];exact hk,rfl⟩,hG⟩
 have dT: ∀ (b':Nat) (cs':List aa),(s.H.set b none)[b']? =some (some cs')->b'≠b/\s.H[b']? =some (some cs'):=fun b' cs' h=>by
  by_cases e:b=b'
  ·subst e
   rw[List.getElem?_set] at h;simp at h
  ·rw[List.getElem?_set_ne e] at h
   exact ⟨fun h=>e h.symm,h⟩
 have hT:j5 w (dJ κ (ρ b) (.bg (tE false fs.length) (.slot t))) (.slot t) false sz fs len (ρ b) cap:=⟨fun j hj=>by
  obtain ⟨v,k1,k2⟩:=hB.cell (hB.JE hp0) j (by simp;omega);rw[List.getElem_append_left (by simpa using hj),List.getElem_map] at k2;exact ⟨v,by rw[Nat.zero_add];exact k1,cy.grow hG k2⟩,hlt,hl,aG _ _ _,hc,cB,eB,hB1,by rw[hB2,hp]⟩
 refine ⟨_,⟨hR.defers,fun i hi'=> ?_,fun i hi=> ?_,fun i=> ?_,⟨fun b' cs' hb'=> ?_,fun b' cs' hb' x hx=> ?_⟩⟩,hF⟩
 ·show bM _ _ _ _ (dJ s.sl t _ i) _
  by_cases e:i=t
  ·subst e
   rw[aG];have h1:=hR.slot i hi';rw[ht] at h1;have h1:a.tmps[i]= .slice (some ⟨ρ b,0,none⟩) len cap:=h1;rw[h1];exact .inl ⟨ρ b,cap,rfl,hT⟩
  ·rw[aw _ _ e]
   exact bM.eC hG (fun _ _=>rfl) (hR.ok i) (fun _ _ _ _ _=>hK _) (hR.slot i hi')
 ·show dJ s.sl t _ i=_
  by_cases e:i=t
  ·omega
  ·rw[aw _ _ e]
   exact hR.out i hi
 ·show ad.ok _ (dJ s.sl t _ i)=true
  rw[List.length_set];by_cases e:i=t
  ·subst e
   rw[aG];rfl
  ·rw[aw _ _ e]
   exact hR.ok i
 ·obtain ⟨hne,hb2⟩:=dT b' cs' hb'
  obtain ⟨k0,hobj⟩:=hR.heap.dk b' cs' hb2;refine ⟨?_,?_⟩
  ·rw[aw _ _ (fun e=>by rw[e,ho] at k0;injection k0 with k0;exact hne k0.symm)]
   exact k0
  ·rcases hobj with ⟨c,e,k1,k2,k3⟩|hM
   ·exact .inl ⟨c,e,k1,k2,fun i hi hi'=>bx.eC hG (fun _ _=>rfl) (hR.heap.ok b' cs' hb2 _ (List.getElem_mem hi)) (fun _ _ _ _ _=>hK _) (k3 i hi hi')⟩
   ·exact .inr (hM.mv hG rfl)
 ·obtain ⟨hne,hb2⟩:=dT b' cs' hb'
  rw[List.length_set];exact hR.heap.ok b' cs' hb2 x hx
end
theorem BV {σ:Nat->Nat} {fs:List ag} {m:Nat}:cV σ (some (fs.map aa.f++List.replicate m .any))=some (fs.map aa.f++List.replicate m .any):=by
 simp[cV,aa.cW]
structure tO (z:Nat) (gs:List ag) (n:Nat) (m0:Nat) (r:ad) (H':List (Option (List aa))):Prop where
 ex: ∃ b cap,r= .c (.arr b 0 n cap)/\n<=cap/\H'[b]? =some (some (gs.map aa.f++List.replicate (cap*z-gs.length) .any))
 ok:H'.all (okB H'.length)=true
theorem J4 {P:Program} {s:St} {a:Act} {w:World} {κ:Nat->BK} {ρ:Nat->Nat} (hR:Rel s a w κ ρ) {f:FuncId} {t u d z len n:Nat} {cs gs:List ag} {v2:ad} (ht:s.sl t= .c (.bg false z cs len)) (hut:u≠t) (hu:s.sl u=v2)
  (hv1:v2.h=v2) (hv2: ∀ σ,v2.cW σ=v2) (hv3:v2.ok 0=true) (hgs:gs.length=n*z) (hd:d<a.tmps.size)
  (hN:len=0-> ∃ Q,Er P f [.c (.f .nils),v2] [] Q/\ ∀ r H',Q r H'->tO z gs n 0 r H')
  (hA: ∀ cap,len<=cap-> ∃ Q,Er P f [.c (.arr 0 0 len cap),v2] [some (cs.map aa.f++List.replicate (cap*z-cs.length) .any)] Q/\ ∀ r H',Q r H'->tO z gs n 0 r H'):
  Calls P f #[a.eval (.tmp t),a.eval (.tmp u)] w fun e w'=> ∃ v κ' ρ',e= .returned v/\Rel ⟨dJ (dJ s.sl t (.c .any)) d (.c (.bg false z gs n)),s.H⟩ (a.put (some d) v) w' κ' ρ'/\Fr w κ w' κ'/\ ∀ b,b<s.H.length->ρ' b=ρ b:=by
 have fin: ∀ {s2:St} {a2:Act} {w2:World} {κ2:Nat->BK} {ρ2:Nat->Nat} {b cap:Nat},Rel s2 a2 w2 κ2 ρ2->s.H.length<=b->s2.H.take s.H.length=s.H->s2.H[b]? =some (some (gs.map aa.f++List.replicate (cap*z-gs.length) .any))->s2.sl d= .c (.arr b 0 n cap)->n<=cap->(∀ i,i≠d->i≠t->s2.sl i=s.sl i)->
   ∃ κ3,Rel ⟨dJ (dJ s.sl t (.c .any)) d (.c (.bg false z gs n)),s.H⟩ a2 w2 κ3 ρ2/\Fr w2 κ2 w2 κ3:=by
  intro s2 a2 w2 κ2 ρ2 b cap hR2 hb hH hg hs hc hsl;obtain ⟨κ3,h3,h4⟩:=DK hR2 (t:=d) (sz:=z) hg (ji _ _) hs hc hgs (by
   rw[List.length_append,List.length_map,List.length_replicate];have:gs.length<=cap*z:=by rw[hgs];exact Nat.mul_le_mul_right _ hc
   omega)
  have hbl:b<s2.H.length:=(List.getElem?_eq_some_iff.1 hg).1;have hH2:(s2.H.set b none).take s.H.length=s.H:=by
   rw[List.take_set_of_le hb];exact hH
  refine ⟨κ3,h3.less (n:=s.H.length) (by rw[List.length_set];omega) hH2.symm (fun i=> ?_) (fun i=> ?_) ?_,h4⟩
  ·show dJ (dJ s.sl t _) d _ i=dJ s2.sl d _ i\/dJ (dJ s.sl t _) d _ i=_
   by_cases e:i=d
   ·subst e
    rw[aG,aG];exact .inl rfl
   ·rw[aw _ _ e,aw _ _ e]
    by_cases e2:i=t
    ·subst e2
     rw[aG];exact .inr rfl
    ·rw[aw _ _ e2,hsl i e e2];exact .inl rfl
  ·show ad.ok _ (dJ (dJ s.sl t _) d _ i)=true
   by_cases e:i=d
   ·subst e
    rw[aG];rfl
   ·rw[aw _ _ e]
    by_cases e2:i=t
    ·subst e2
     rw[aG];rfl
    ·rw[aw _ _ e2];exact hR.ok i
  ·rw[hH2]
   refine List.all_eq_true.2 fun x hx=> ?_
   cases x with
   |none=>rfl
   |some cs=>
    obtain ⟨i,hi⟩:=List.mem_iff_getElem?.1 hx;exact List.all_eq_true.2 (hR.heap.ok i cs hi)
 have hsig0: ∀ (n b:Nat),sig n [] b=n+b:=fun n b=>by simp[sig]
 have mk: ∀ {s1:St} {κ1:Nat->BK} {ρ1:Nat->Nat} (bs:List Nat) {args':List ad} {Hs:List (Option (List aa))} {Q:ad->List (Option (List aa))->Prop},Rel s1 a w κ1 ρ1->Er P f args' Hs Q->bs.Nodup->(∀ b∈bs,b<s1.H.length/\s.H.length<=b)->Hs.map (cV (sig s1.H.length bs))=bs.map (fun b=>s1.H.getD b none)->(∀ x∈args',x.ok Hs.length=true)->Hs.all (okB Hs.length)=true->args'.length=2->(∀ i (hi:i<args'.length) (hix:i<[Operand.tmp t,Operand.tmp u].length),(args'[i]).cW (sig s1.H.length bs)=((s1.ev [Operand.tmp t,Operand.tmp u][i]).h).cT s1.H []\/(args'[i]).cW (sig s1.H.length bs)=((s1.ev [Operand.tmp t,Operand.tmp u][i]).aQ).cT s1.H [])->(∀ r H',Q r H'->tO z gs n 0 r H')->(∀ r H',Q r H'->Hs.length<=H'.length)->s.H.length<=s1.H.length->s1.H.take s.H.length=s.H->(∀ i,i≠t->s1.sl i=s.sl i)->Fr w κ w κ1->(∀ b,b<s.H.length->ρ1 b=ρ b)->
   Calls P f #[a.eval (.tmp t),a.eval (.tmp u)] w fun e w'=> ∃ v κ' ρ',e= .returned v/\Rel ⟨dJ (dJ s.sl t (.c .any)) d (.c (.bg false z gs n)),s.H⟩ (a.put (some d) v) w' κ' ρ'/\Fr w κ w' κ'/\ ∀ b,b<s.H.length->ρ' b=ρ b:=by
  intro s1 κ1 ρ1 bs args' Hs Q hR1 hO hnd hlt hHs hok hHok hal hargs hQ hQl hle htk hsl hF1 hρ1;refine (mY (L:=[]) (xs:=[.tmp t,.tmp u]) hO hnd (fun b hb=>(hlt b hb).1) hHs hok hHok (by simpa using hal) hargs (fun b hb=>by cases hb) (fun r H' hq=>⟨(hQ r H' hq).ok,.inl rfl⟩) hR1).mono ?_;rintro e w' ⟨r,Hs',hq,v,κ',ρ',rfl,hR',hr,hrok,hfr,hρ⟩;obtain ⟨b,cap,rfl,hc,hg⟩:=(hQ _ _ hq).ex;have hbs:bs.length=Hs.length:=by
   have:=congrArg List.length hHs;simpa using this.symm
  have hl':=hQl _ _ hq;have hsz:(bt s1.H bs (Hs'.map (cV (sig s1.H.length bs)))).length=s1.H.length+(Hs'.length-bs.length):=by
   rw[gx _ _ _ (by simp;omega)];simp
  have hblt:b<Hs'.length:=(List.getElem?_eq_some_iff.1 hg).1;have hsb:s.H.length<=sig s1.H.length bs b:=by
   unfold sig;rw[List.getD_eq_getElem?_getD];rcases Nat.lt_or_ge b bs.length with k|k
   ·rw[List.getElem?_eq_getElem k]
    exact (hlt _ (List.getElem_mem k)).2
   ·rw[List.getElem?_eq_none k]
    simp only[Option.getD_none];omega
  have hP:=hR'.put (d:=some d) (x:=(ad.c (.arr b 0 n cap)).cW (sig s1.H.length bs)) (v:=v) (fun t e=>by injection e with e;subst e;exact hd) (fun _ _=>hr _) hrok;have hT1:(bt s1.H bs (Hs'.map (cV (sig s1.H.length bs)))).take s.H.length=s.H:=by
   refine List.ext_getElem? fun i=> ?_
   rw[List.getElem?_take];split
   ·rename_i hi
    have hix:i<(bt s1.H bs (Hs'.map (cV (sig s1.H.length bs)))).length:=by omega
    obtain ⟨x,hx⟩: ∃ x,(bt s1.H bs (Hs'.map (cV (sig s1.H.length bs))))[i]? =some x:=⟨_,List.getElem?_eq_getElem hix⟩;rw[hx];rcases iP bs s1.H _ hnd (fun b hb=>(hlt b hb).1) (by simp;omega) i x hx with ⟨j,h1,h2⟩|⟨h1,h2⟩|⟨h1,h2⟩
    ·have:=(hlt i (List.mem_of_getElem? h1)).2
     omega
    ·rw[← h2,← htk,List.getElem?_take,if_pos hi]
    ·omega
   ·rename_i hi
    rw[List.getElem?_eq_none (by omega)]
  have hT2:(bt s1.H bs (Hs'.map (cV (sig s1.H.length bs))))[sig s1.H.length bs b]? =some (some (gs.map aa.f++List.replicate (cap*z-gs.length) .any)):=by
   have hix:sig s1.H.length bs b<(bt s1.H bs (Hs'.map (cV (sig s1.H.length bs)))).length:=by
    have:=hrok;simp only[ad.cW,aa.cW,ad.ok,aa.ok,decide_eq_true_eq] at this
    exact this
   obtain ⟨x,hx⟩: ∃ x,(bt s1.H bs (Hs'.map (cV (sig s1.H.length bs))))[sig s1.H.length bs b]? =some x:=⟨_,List.getElem?_eq_getElem hix⟩;rw[hx];have hren:(Hs'.map (cV (sig s1.H.length bs)))[b]? =some (some (gs.map aa.f++List.replicate (cap*z-gs.length) .any)):=by
    rw[List.getElem?_map,hg,Option.map_some,BV]
   rcases iP bs s1.H _ hnd (fun b hb=>(hlt b hb).1) (by simp;omega) _ x hx with ⟨j,h1,h2⟩|⟨h1,h2⟩|⟨h1,h2⟩
   ·have hjb:j=b:=by
     rcases Nat.lt_or_ge b bs.length with k|k
     ·have e:sig s1.H.length bs b=bs[b]:=by simp[sig,k]
      have q1:=GL hnd h1;rw[e,hnd.idxOf_getElem b k] at q1
      exact q1.symm
     ·have e:sig s1.H.length bs b=s1.H.length+(b-bs.length):=by simp[sig,k]
      have:=(hlt _ (List.mem_of_getElem? h1)).1;omega
    rw[hjb,hren] at h2;exact h2.symm
   ·exfalso
    rcases Nat.lt_or_ge b bs.length with k|k
    ·have e:sig s1.H.length bs b=bs[b]:=by simp[sig,k]
     exact h1 (by rw[e];exact List.getElem_mem k)
    ·have e:sig s1.H.length bs b=s1.H.length+(b-bs.length):=by simp[sig,k]
     have:=(List.getElem?_eq_some_iff.1 h2).1;omega
   ·rcases Nat.lt_or_ge b bs.length with k|k
    ·have e:sig s1.H.length bs b=bs[b]:=by simp[sig,k]
     have:=(hlt _ (List.getElem_mem k)).1;omega
    ·have e:sig s1.H.length bs b=s1.H.length+(b-bs.length):=by simp[sig,k]
     rw[e,show bs.length+(s1.H.length+(b-bs.length)-s1.H.length)=b by omega,hren] at h2;exact h2.symm
  obtain ⟨κ3,k1,k2⟩:=fin (b:=sig s1.H.length bs b) (cap:=cap) hP hsb hT1 hT2 (aG _ _ _) hc (fun i e1 e2=>(aw _ _ e1).trans (hsl i e2));exact ⟨v,κ3,ρ',rfl,k1,(hF1.trans hfr).trans k2,fun b hb=>(hρ b (by omega)).trans (hρ1 b hb)⟩
 rcases G5 hR ht with ⟨rfl,h0,hR1⟩|⟨cap,κ1,ρ1,hcap,hcut,hR1,hF1,hρ1⟩
 ·obtain ⟨Q,hO,hQ⟩:=hN h0
  refine mk [] hR1 hO List.nodup_nil (fun b hb=>by cases hb) rfl (fun x hx=> ?_) rfl rfl (fun i hi hix=> .inr ?_) hQ (fun r H' hq=>Nat.zero_le _) (Nat.le_refl _) (List.take_of_length_le (Nat.le_refl _)) (fun i hi=>aw _ _ hi) (Fr.refl _ _) (fun _ _=>rfl)
  ·rcases List.mem_cons.1 hx with rfl|hx
   ·rfl
   ·rw[List.mem_singleton.1 hx];exact hv3
  ·match i,hi with
   |0,_=>
    show (ad.c (.f .nils)).cW _=((dJ s.sl t (.c (.f .nils)) t).aQ).cT s.H [];rw[aG];rfl
   |1,_=>
    show v2.cW _=((dJ s.sl t (.c (.f .nils)) u).aQ).cT s.H [];rw[aw _ _ hut,hu,ad.gh,hv2];exact (by rw[← hv1];exact (ad.Fe _).symm)
 ·obtain ⟨Q,hO,hQ⟩:=hA cap hcap
  have hl1: ∀ r H',Q r H'->1<=H'.length:=fun r H' hq=>(hO.res r H' hq).2.2
  refine mk [s.H.length] hR1 hO (by simp) (fun b hb=> ?_) ?_ (fun x hx=> ?_) ?_ rfl (fun i hi hix=> .inr ?_) hQ hl1 (by simp) (by simp) (fun i hi=>aw _ _ hi) hF1 hρ1
  ·rw[List.mem_singleton.1 hb]
   exact ⟨by simp,Nat.le_refl _⟩
  ·simp only[List.map_cons,List.map_nil]
   rw[BV,List.getD_eq_getElem?_getD,List.getElem?_append_right (Nat.le_refl _)];simp
  ·rcases List.mem_cons.1 hx with rfl|hx
   ·rfl
   ·rw[List.mem_singleton.1 hx];exact ad.fT (Nat.zero_le _) _ hv3
  ·simp only[List.all_cons,List.all_nil,Bool.and_true,okB,List.all_eq_true]
   intro x hx;rcases List.mem_append.1 hx with hx|hx
   ·obtain ⟨y,_,rfl⟩:=List.mem_map.1 hx;rfl
   ·rw[(List.mem_replicate.1 hx).2];rfl
  ·match i,hi with
   |0,_=>
    show (ad.c (.arr 0 0 len cap)).cW _=((dJ s.sl t (.c (.arr s.H.length 0 len cap)) t).aQ).cT _ [];rw[aG,ad.gh];simp[ad.cW,aa.cW,sig,ad.aQ,aa.aQ]
   |1,_=>
    show v2.cW _=((dJ s.sl t (.c (.arr s.H.length 0 len cap)) u).aQ).cT _ [];rw[aw _ _ hut,hu,ad.gh,hv2];exact (by rw[← hv1];exact (ad.Fe _).symm)
theorem QI {P:Program} {ops:Array Oper} {rest:List Oper} {d t u:Nat} {ty:TypeId} {pos:String} {af:Array Edge} {K:St->Prop} {l:SL} {H:SH} {c:Call} {f:FuncId} {z:Nat} {α:Type} {F:α->List ag} {V:α->List SC} {M:List ag->Option α} {e:α} {ls:List α} {v2:SV} (ls':List α)
  (hc:cf ⟨some d,.call c,ty,pos,af,none⟩=some (f,[.tmp t,.tmp u])) (ht:lk l t=some (.v (.c (.ownr z F V M e ls)))) (hut:u≠t) (hu:lk l u=some (.v v2)) (hv1:v2.den.h=v2.den) (hv2: ∀ σ,v2.den.cW σ=v2.den) (hv3:v2.den.ok 0=true) (hF: ∀ x,(F x).length=z)
  (hfn: ∃ fn,P.funcs[f]? =some fn/\fn.body.isSome=true/\(fn.name== "runtime.NumGoroutine")=false)
  (hN:ls.length=0-> ∃ Q,Er P f [.c (.f .nils),v2.den] [] Q/\ ∀ r H',Q r H'->tO z (ls'.flatMap F) ls'.length 0 r H')
  (hA: ∀ cap,ls.length<=cap-> ∃ Q,Er P f [.c (.arr 0 0 ls.length cap),v2.den] [some ((ls.flatMap F).map aa.f++List.replicate (cap*z-(ls.flatMap F).length) .any)] Q/\ ∀ r H',Q r H'->tO z (ls'.flatMap F) ls'.length 0 r H')
  (h:WR P ops rest (SS ((d,.v (.c (.ownr z F V M e ls')))::(t,.v (.c (.c .any)))::l) H) (.plain K)):WR P ops (⟨some d,.call c,ty,pos,af,none⟩::rest) (SS l H) (.plain K):=by
 refine kj (au rfl) (fun _:Unit=>SS ((d,.v (.c (.ownr z F V M e ls')))::(t,.v (.c (.c .any)))::l) H) (fun _=>by rw[bY,bY];exact Nat.le_refl _) (fun a w κ ρ hR hdt next Q hn=> ?_) (fun _=>h);unfold Oper.wp;rw[kR rfl hc hfn];refine (J4 hR (f:=f) (t:=t) (u:=u) (d:=d) (ka ht) hut (ka hu) hv1 hv2 hv3 (aK F z hF ls') (hdt d rfl) hN hA).mono ?_;rintro e w' ⟨v,κ',ρ',rfl,hR',hfr,hρ⟩;refine hn () _ w' κ' ρ' ?_ hfr hρ (dt _ _ _);exact hR'
theorem B9: ∀ (ds cs:List aa) (o:Nat),o+ds.length<=cs.length->setAt cs o ds=cs.take o++ds++cs.drop (o+ds.length)
 |[],cs,o,_=>by simp[setAt]
 |d::ds,cs,o,h=>by
  rw[List.length_cons] at h;rw[setAt,B9 ds _ _ (by rw[List.length_set];omega)];have h1:o<cs.length:=by omega
  have e:cs.set o d=cs.take o++d::cs.drop (o+1):=by
   rw[List.set_eq_take_append_cons_drop,if_pos h1]
  have h2:(cs.take o).length=o:=by rw[List.length_take];omega
  have e1:(cs.set o d).take (o+1)=cs.take o++[d]:=by
   rw[e,List.take_append,h2,List.take_of_length_le (by omega)];simp
  have e2:(cs.set o d).drop (o+1+ds.length)=cs.drop (o+(ds.length+1)):=by
   rw[e,List.drop_append,h2,List.drop_eq_nil_of_le (by omega),show o+1+ds.length-o=ds.length+1 by omega,List.drop_succ_cons,List.drop_drop];simp[show o+1+ds.length=o+(ds.length+1) by omega]
  rw[e1,e2];simp
section
variable {P:Program} {ops:Array Oper} {s:St} {rest:List Oper} {d:Option Tmp} {ty:TypeId} {pos:String} {af:Array Edge} {R:Rg}
theorem yl {t:TypeId} {x lo:Operand} {z b off n cap:Nat} {a:Int} (hz:bl P t=some z) (hx:s.ev x= .c (.arr b off n cap)) (hh:gj s (some lo) 0=some a) (h0:0<=a) (h1:a<=n) (h2:n<=cap)
  (h: ∀ o',(a<n->o'=off+a.toNat*z)->o'+((n:Int)-a).toNat*z<=off+n*z->WR P ops rest (s.put d (.c (.arr b o' ((n:Int)-a).toNat (cap-a.toNat)))) (R.push .q0)):
  WR P ops (⟨d,.slice t x (some lo) none none,ty,pos,af,none⟩::rest) s R:=by
 refine cz (au rfl) rfl ?_ (dh rfl rfl rfl) (h (if (cap:Int)=a then off else off+a.toNat*z) (fun hl=>by rw[if_neg (by omega)]) ?_)
 ·show dK P s _ t x (some lo) none none=_
  unfold dK;rw[hz,hx];have e:(ad.c (aa.arr b off n cap)).aQ= .c (.arr b off n cap):=rfl;rw[e];simp only[hh];have h4:gj s none (n:Int)=some (n:Int):=rfl;rw[h4];simp only;rw[if_pos ⟨h0,h1,by omega⟩]
 ·split
  ·rw[show ((n:Int)-a).toNat=0 by omega];omega
  ·have:(n:Int).toNat=n:=Int.toNat_natCast n
   have e:a.toNat+((n:Int)-a).toNat=n:=by omega
   have:a.toNat*z+((n:Int)-a).toNat*z=n*z:=by rw[← Nat.add_mul,e]
   omega
theorem Aq {t tx:TypeId} {x y:Operand} {b off n cap:Nat} (hx:s.ev x= .c (.arr b off n cap)):fl P s t tx x y=none:=by
 have hh:holds s x=none:=by unfold holds;split<;>simp[hx]
 unfold fl;split
 ·split
  ·rw[hh,hx]
  ·rfl
 ·rfl
theorem wc {t tx:TypeId} {x y:Operand} {z b off n cap m:Nat} {fs:List ag} {cells:List aa} {fp:List Nat} (hz:bl P t=some z) (hx:s.ev x= .c (.arr b off n cap)) (hs:bo P s z tx y=some (m,fs)) (hb:s.H[b]? =some (some cells)) (h1:n+m<=cap) (h2:off+(n+m)*z<=cells.length/\gE cells=true) (hfp:gK (s.ev y).aQ=fp) {H':HB} (hH:dT s.H b (setAt cells (off+n*z) (fs.map aa.f))=H')
  (h:WR P ops rest ((s.jm H').put d (.c (.arr b off (n+m) cap))) (R.push ⟨b::fp,[],[b],none,false,false⟩)):WR P ops (⟨d,.call { callee:= .builtin .append,args:= #[x,y],argTypes:= #[t,tx] },ty,pos,af,none⟩::rest) s R:=by
 refine iY (x:= .c (.arr b off (n+m) cap)) (c:={ dk:=some (b,setAt cells (off+n*z) (fs.map aa.f)) }) (au rfl) rfl ?_ (by rw[← hfp];simp only[gM,kW,s6,hx,ad.aQ,aa.aQ,gK];rfl) ?_ h
 ·show qS P s t tx x y=_
  unfold qS;rw[Aq hx];show mT P s t tx x y=_
  unfold mT;rw[hz,hx];show (match bo P s z tx y,s.H[b]? with|_,_=>_)=_
  rw[hs,hb];show (if _ then _ else _)=_
  rw[if_pos ⟨h1,h2⟩]
 ·rw[← hH]
  rfl
end
theorem xO {α:Type} {F:α->List ag} {z:Nat} (hF: ∀ x,(F x).length=z) (B C:List α) (i m m':Nat) (hi:i<=B.length) (h:(i+C.length-B.length)*z+m'=m):
  setAt ((B.flatMap F).map aa.f++List.replicate m .any) (i*z) ((C.flatMap F).map aa.f)=((B.take i++C++B.drop (i+C.length)).flatMap F).map aa.f++List.replicate m' .any:=by
 have hB:=aK F z hF B;have hC:=aK F z hF C;have e1:(B.flatMap F).take (i*z)=(B.take i).flatMap F:=cF F z hF B i;have hzi:i*z+C.length*z=(i+C.length)*z:=(Nat.add_mul _ _ _).symm;have hiz:i*z<=B.length*z:=Nat.mul_le_mul_right _ hi;have key:(i+C.length)*z=((i+C.length)-B.length)*z+(min (i+C.length) B.length)*z:=by
  rw[← Nat.add_mul];congr 1;omega
 have hmin:(min (i+C.length) B.length)*z<=B.length*z:=Nat.mul_le_mul_right _ (Nat.min_le_right _ _);rw[B9 _ _ _ (by simp only[List.length_append,List.length_map,List.length_replicate];omega)];have e2:((B.flatMap F).map aa.f++List.replicate m aa.any).take (i*z)=((B.take i).flatMap F).map aa.f:=by
  rw[List.take_append_of_le_length (by rw[List.length_map];omega),← List.map_take,e1]
 have e3:((B.flatMap F).map aa.f++List.replicate m aa.any).drop (i*z+((C.flatMap F).map aa.f).length)=((B.drop (i+C.length)).flatMap F).map aa.f++List.replicate m' .any:=by
  rw[List.length_map,hC,hzi,List.drop_append];have e4:((B.flatMap F).map aa.f).drop ((i+C.length)*z)=((B.drop (i+C.length)).flatMap F).map aa.f:=by
   rw[← List.map_drop];congr 1;rcases Nat.le_total (i+C.length) B.length with k|k
   ·exact dG F z hF B _
   ·rw[List.drop_eq_nil_of_le (by rw[hB];exact Nat.mul_le_mul_right _ k),List.drop_eq_nil_of_le k];rfl
  rw[e4,List.length_map,List.drop_replicate];congr 2;rcases Nat.le_total (i+C.length) B.length with k|k
  ·have h0:i+C.length-B.length=0:=by omega
   have:=Nat.mul_le_mul_right z k;rw[h0] at h
   omega
  ·rw[Nat.min_eq_right k] at key
   omega
 rw[e2,e3];simp[List.flatMap_append]
theorem tg {s:St} {a:Act} {w:World} {κ:Nat->BK} {ρ:Nat->Nat} (hR:Rel s a w κ ρ) {x:Operand} {b off n cap:Nat} (hx:s.ev x= .c (.arr b off n cap)):a.eval x= .slice (some ⟨ρ b,off,none⟩) n cap:=by
 have:=hR.ev (l:= .slot 0) x;rw[hx] at this
 exact this
theorem Gv {P:Program} {s:St} {o:Oper} {t tx:TypeId} {x y:Operand} (ho:o.op= .call { callee:= .builtin .copy,args:= #[x,y],argTypes:= #[t,tx] }) {z b off k cap b2 off2 k2 cap2:Nat} {cells cells2:List aa} {fs:List ag} (hz:bl P t=some z) (hz2:bl P tx=some z)
  (hx:s.ev x= .c (.arr b off k cap)) (hy:s.ev y= .c (.arr b2 off2 k2 cap2)) (hb:s.H[b]? =some (some cells)) (hb2:s.H[b2]? =some (some cells2)) (hkk:gE cells=true) (hn:off+k*z<=cells.length) (hn2:off2+min k2 k*z<=cells2.length) (hfz:jX ((cells2.drop off2).take (min k2 k*z))=some fs):
  hX P o s (.c (.f (.v (.int .i64 (min k2 k:Nat))))) { dk:=some (b,setAt cells off (fs.map aa.f)) }:=by
 intro a w κ ρ hR;obtain ⟨e,i,hu,hi,rfl⟩:=dH hz;have hB:=hR.heap.dk b cells hb;have hB2:=hR.heap.dk b2 cells2 hb2;obtain ⟨news,hl,hra,hre⟩:=hB2.part off2 (min k2 k*i.size) (nw hB2 hn2 hfz) hn2;obtain ⟨f1,f2⟩:=iC _ fs hfz;have f1':fs.length=min k2 k*i.size:=by rw[f1];simp;omega
 have hrep: ∀ j (h:j<fs.length) (h':j<news.length),cy w κ fs[j] news[j]:=fun j hj hj'=>by
  have h3:=hre j (by omega) hj';have h4:=f2 j (by rw[← f1];exact hj) hj;simp only[List.getElem_take,List.getElem_drop] at h4
  exact aa.nf h3 h4
 have hm2:min k2 k*i.size<=k*i.size:=Nat.mul_le_mul_right _ (Nat.min_le_right _ _);have hth:=hB.there hkk off (min k2 k*i.size) (by omega);have hone: ∀ v∈news,v.oneCell'=true:=fun v hv=>by
  obtain ⟨j,hj,rfl⟩:=List.mem_iff_getElem.1 hv;exact (hrep j (by omega) hj).one
 have hst:=run_storeCells_cells (P:=P) (ρ b) off news 0 w (fun j hj=>(hth j (by omega)).1) (fun j hj=>(hth j (by omega)).2) hone;have hrun:(Builtin.copy_ #[t,tx] o.type #[a.eval x,a.eval y]).run P w= .ok (goInt (min k2 k:Nat)) (w.setCells (ρ b) off news):=by
  have hf:=jH (P:=P) w i.size (ρ b2) off2 k2 cap2 (k2.min k) news hra (by rw[hl];exact Nat.le_refl _);rw[List.take_of_length_le (by rw[hl];exact Nat.le_refl _)] at hf
  rw[tg hR hx,tg hR hy];have hlen: ∀ w':World,(Builtin.lenOf (.slice (some ⟨ρ b2,off2,none⟩) k2 cap2)).run P w'= .ok k2 w':=fun _=>rfl
  simp[Builtin.copy_,run_underlying hu,hlen,sizeOf,typeInfo,hi,hf];rw[hst];simp
 have hokd: ∀ y∈fs.map aa.f,y.ok s.H.length=true:=fun y hy=>by
  obtain ⟨q,_,rfl⟩:=List.mem_map.1 hy;rfl
 have hbs:=hB.store hkk s.H.length (yc hb) (hR.heap.ok b cells hb) off (ds:=fs.map aa.f) (vs:=news.toArray) (by simp;omega) hokd (fun j hj hj'=>by
  have h1:j<fs.length:=by simpa using hj
  have:=hrep j h1 (by omega);simp only[List.getElem_map,List.getElem_toArray];exact this)
 have m:=lj (n:=s.H.length) (w:=w) (ρ:=ρ) hB.own off news;have hR2:=hR.rq hb m hbs (fun q hq=>by
  obtain ⟨j,hj,rfl⟩:=List.mem_iff_getElem.1 hq;have hj2:=hj;rw[cQ] at hj2;rw[fQ _ cells off j hj2];split
  ·exact hokd _ (List.getElem_mem _)
  ·exact hR.heap.ok b cells hb _ (List.getElem_mem _))
 exact ⟨goInt (min k2 k:Nat),_,κ,ρ,.inl (xa ho hrun),hR2,fun d hd=>cy.v _ rfl,rfl,m.fr,fun _ _=>rfl⟩
theorem td {P:Program} {ops:Array Oper} {rest:List Oper} {d:Nat} {ty:TypeId} {pos:String} {af:Array Edge} {R:Rg} {l:SL} {H:SH} {t tx:TypeId} {x y:Operand} {z b o k cap b2 off2 k2 cap2 m:Nat} {α:Type} {F:α->List ag} {V:α->List SC} {M:List ag->Option α} {e:α} {B:List α} {B2:SB} (i:Nat) (C:List α) (m':Nat)
  (hz:bl P t=some z) (hz2:bl P tx=some z) (hx:m6 l x=some (.c (.c (.arr b o k cap)))) (ho:o=i*z) (hy:m6 l y=some (.c (.c (.arr b2 off2 k2 cap2)))) (hH:nth H b=some (some (.elo z F V M e B m))) (hH2:nth H b2=some (some B2)) (hF: ∀ x,(F x).length=z) (hfz: ∀ y,jX ((F y).map aa.f)=some (F y))
  (hi:i<=B.length) (hC:C.length=min k2 k) (hk:i*z+k*z<=B.length*z+m) (hm:(i+C.length-B.length)*z+m'=m) (hs1:off2+C.length*z<=B2.den.length) (hsrc:(B2.den.drop off2).take (C.length*z)=(C.flatMap F).map aa.f)
  (h:WR P ops rest (SS ((d,.v (vI (min k2 k:Nat)))::l) (H.set b (some (.elo z F V M e (B.take i++C++B.drop (i+C.length)) m')))) (R.push ⟨[b,b2],[],[b],none,false,false⟩)):
  WR P ops (⟨some d,.call { callee:= .builtin .copy,args:= #[x,y],argTypes:= #[t,tx] },ty,pos,af,none⟩::rest) (SS l H) R:=by
 subst ho;have hx2:(SS l H).ev x= .c (.arr b (i*z) k cap):=cm hx;have hy2:(SS l H).ev y= .c (.arr b2 off2 k2 cap2):=cm hy;have hbb:(SS l H).H[b]? =some (some ((B.flatMap F).map aa.f++List.replicate m .any)):=by rw[bY];exact dz hH
 have hbb2:(SS l H).H[b2]? =some (some B2.den):=by rw[bY];exact dz hH2
 refine mQ (x:= .c (.f (.v (.int .i64 (min k2 k:Nat))))) (c:={ dk:=some (b,setAt ((B.flatMap F).map aa.f++List.replicate m .any) (i*z) ((C.flatMap F).map aa.f)) }) (fp:=[b,b2]) (au rfl) rfl ⟨fun s' k1 k2' k3=> ?_,fun b' cs e=> ?_,rfl⟩ rfl ?_ h
 ·refine Gv rfl hz hz2 ((k1 x ?_).symm.trans hx2) ((k1 y ?_).symm.trans hy2) ((k2' b (by simp)).symm.trans hbb) ((k2' b2 (by simp)).symm.trans hbb2) (ji _ _) (by simp only[List.length_append,List.length_map,List.length_replicate,aK F z hF];exact hk) (by rw[← hC];exact hs1) ?_
  ·simp[Op.operands,Call.operands]
  ·simp[Op.operands,Call.operands]
  ·rw[← hC,hsrc]
   exact lV hfz C
 ·injection e with e;injection e with e1 e2;subst e1
  exact ⟨by simp,yc hbb⟩
 ·have e2:=xO hF B C i m m' hi hm
  show ((SS l H).jm (dT (SS l H).H b _)).put (some d) _=_;rw[e2,bY];have e3:dT (aR H) b (((B.take i++C++B.drop (i+C.length)).flatMap F).map aa.f++List.replicate m' .any)=aR (H.set b (some (.elo z F V M e (B.take i++C++B.drop (i+C.length)) m'))):=by
   unfold aR dT;rw[List.map_set];rfl
  rw[e3,eK];rfl
theorem Ou {P:Program} {ops:Array Oper} {rest:List Oper} {d:Nat} {ty:TypeId} {pos:String} {af:Array Edge} {R:Rg} {l:SL} {H:SH} {t tx:TypeId} {x y:Operand} {z b n cap b2 k2 cap2 m:Nat} {α:Type} {F:α->List ag} {V:α->List SC} {M:List ag->Option α} {e:α} {B C:List α} (m':Nat)
  (hz:bl P t=some z) (hz2:bl P tx=some z) (hx:m6 l x=some (.c (.c (.arr b 0 n cap)))) (hy:m6 l y=some (.c (.c (.arr b2 0 k2 cap2)))) (hH:nth H b=some (some (.elo z F V M e B m))) (hH2:nth H b2=some (some (.bF z F V M e C))) (hF: ∀ x,(F x).length=z) (hfz: ∀ y,jX ((F y).map aa.f)=some (F y))
  (hn:B.length=n) (hk:C.length=k2) (hc:n+k2<=cap) (hm:k2*z+m'=m)
  (h:WR P ops rest (SS ((d,.v (.c (.c (.arr b 0 (n+k2) cap))))::l) (H.set b (some (.elo z F V M e (B++C) m')))) (R.push ⟨[b,b2],[],[b],none,false,false⟩)):
  WR P ops (⟨some d,.call { callee:= .builtin .append,args:= #[x,y],argTypes:= #[t,tx] },ty,pos,af,none⟩::rest) (SS l H) R:=by
 subst hn;subst hk;have hx2:(SS l H).ev x= .c (.arr b 0 B.length cap):=cm hx;have hy2:(SS l H).ev y= .c (.arr b2 0 C.length cap2):=cm hy;have hbb:(SS l H).H[b]? =some (some ((B.flatMap F).map aa.f++List.replicate m .any)):=by rw[bY];exact dz hH
 have hbb2:(SS l H).H[b2]? =some (some ((C.flatMap F).map aa.f)):=by rw[bY];exact dz hH2
 have hfB:=aK F z hF B;have hfC:=aK F z hF C;refine wc (z:=z) (m:=C.length) (fs:=C.flatMap F) hz hx2 ?_ hbb hc ⟨(by
  rw[List.length_append,List.length_map,List.length_replicate,hfB,Nat.zero_add,Nat.add_mul];omega),ji _ _⟩ (fp:=[b2]) (by rw[hy2];rfl) rfl ?_
 ·unfold bo
  rw[hy2];show (match bl P tx,(SS l H).H[b2]? with|_,_=>_)=_
  rw[hz2,hbb2];show (if _ then _ else _)=_
  rw[if_pos ⟨rfl,by rw[List.length_map,hfC,Nat.zero_add];exact Nat.le_refl _⟩,List.drop_zero,List.take_of_length_le (by rw[List.length_map,hfC];exact Nat.le_refl _),lV hfz]
 ·have e1:=xO hF B C B.length m m' (Nat.le_refl _) (by rw[Nat.add_sub_cancel_left];exact hm)
  rw[List.take_length,List.drop_eq_nil_of_le (Nat.le_add_right _ _),List.append_nil] at e1;rw[Nat.zero_add,e1,bY];have e3:dT (aR H) b (((B++C).flatMap F).map aa.f++List.replicate m' .any)=aR (H.set b (some (.elo z F V M e (B++C) m'))):=by
   unfold aR dT;rw[List.map_set];rfl
  rw[e3,eK];exact h
theorem yA {w:World} {κ:Nat->BK} {ρ:Nat->Nat} {vs:Array Value} {k:Nat} (hk:vs.size=k) (h1: ∀ i (h:i<vs.size),vs[i].oneCell'=true):bU w κ ρ (List.replicate k .any) vs:=
 ⟨by simp[hk],fun x hx=>by rw[(List.mem_replicate.1 hx).2];rfl,fun l i hi hi'=>by rw[List.getElem_replicate];trivial,h1⟩
theorem om {z:Array Value} {n:Nat} (hz:0<z.size) (h1: ∀ v∈z,v.oneCell'=true): ∀ i (h:i<(Builtin.zeroCells z n).size),(Builtin.zeroCells z n)[i].oneCell'=true:=by
 have hm:bU (default:World) (fun _=> .lock none) id (dc (z.toList.map qL) n) (Builtin.zeroCells z n):=nr z n hz h1;exact hm.one
theorem mA (z:Array Value) (n:Nat):(Builtin.zeroCells z n).size=n*z.size:=by simp[Builtin.zeroCells]
theorem Au {P:Program} {s:St} {o:Oper} {t tx:TypeId} {x y:Operand} (ho:o.op= .call { callee:= .builtin .append,args:= #[x,y],argTypes:= #[t,tx] }) {sz by_:Nat} {zs:List aa} (hI:dM P t=some (sz,by_,zs)) {b n cap k:Nat} {cells:List aa} {fs0 fs:List ag} (hx:s.ev x= .c (.arr b 0 n cap)) (hb:s.H[b]? =some (some cells)) (hn:0+n*sz<=cells.length) (hfz:jX ((cells.drop 0).take (n*sz))=some fs0)
  (hsrc:bo P s sz tx y=some (k,fs)) (hg:cap<n+k) (h63:n+k<=4611686018427387904) (hby:(n+k)*by_<=140737488355328) {a:Act} {w:World} {κ:Nat->BK} {ρ:Nat->Nat} (hR:Rel s a w κ ρ):
  ∃ cap' v w' κ' ρ',n+k<=cap'/\(execOp a.eval o).run P w= .ok (.value v) w'/\Rel { s with H:=s.H++[some ((fs0++fs).map aa.f++List.replicate ((cap'-(n+k))*sz) .any)] } a w' κ' ρ'/\v= .slice (some ⟨ρ' s.H.length,0,none⟩) (n+k) cap'/\Fr w κ w' κ'/\ ∀ b,b<s.H.length->ρ' b=ρ b:=by
 obtain ⟨e,i,z,hu,hi,hz,rfl,rfl,rfl,hsz,hpos,h1⟩:=fL hI;obtain ⟨news,hs,hn1,hn2,hn3⟩:=fR hsrc hR;have hB:=hR.heap.dk b cells hb;obtain ⟨olds,hl,hra,hre⟩:=hB.part 0 (n*i.size) (nw hB hn hfz) hn;obtain ⟨f1,f2⟩:=iC _ fs0 hfz;have f1':fs0.length=n*i.size:=by rw[f1];simp;omega
 have hrep: ∀ j (h:j<fs0.length) (h':j<olds.length),cy w κ fs0[j] olds[j]:=fun j hj hj'=>by
  have h3:=hre j (by omega) hj';have h4:=f2 j (by rw[← f1];exact hj) hj;simp only[List.getElem_take,List.getElem_drop] at h4
  exact aa.nf h3 h4
 have hold:(Builtin.firstCells i.size n (.slice (some ⟨ρ b,0,none⟩) n cap)).run P w.drew= .ok olds.toArray w.drew:=by
  have:=jH (P:=P) w.drew i.size (ρ b) 0 n cap n olds hra (by omega)
  rwa [List.take_of_length_le (by omega)] at this
 have hfit:=growslice_fits (need:=n+k) (old:=cap) (bytes:=i.bytes) hg hby;have hrun:=run_append_grow_src (P:=P) w t tx o.type e i z hu hi hz (some ⟨ρ b,0,none⟩) n cap olds hold (a.eval y) k news hs hg (by omega) hfit;have hge:n+k<=grownCap w (n+k) cap e:=grownCap_ge w (n+k) cap e;generalize grownCap w (n+k) cap e=cap' at*
 have m1:=ke s.H.length w κ ρ;have hR1:=hR.mv m1 (fun _ h=>h);have hg2:=m1.grow;have hC1:bU w.drew κ ρ (fs0.map aa.f++fs.map aa.f) (olds.toArray++news.toArray):=kM (pR (by omega) fun j hj hj'=>(hrep j hj hj').grow hg2) (pR hn1 fun j hj hj'=>(hn3 j hj hj').grow hg2);have hC2:bU w.drew κ ρ (List.replicate ((cap'-(n+k))*i.size) .any) (Builtin.zeroCells z.cells (cap'-(n+k))):=yA (by rw[mA,hsz]) (om (by omega) h1);have hC:=kM hC1 hC2;have m2:=dU s.H.length w.drew κ ρ (.cells (olds.toArray++news.toArray++Builtin.zeroCells z.cells (cap'-(n+k))) e) (.wr s.H.length) (dJ ρ s.H.length w.drew.heap.size) (fun b hb=>aw _ _ (by omega));have hN:=hR1.new e hC (fun x hx=>by
  rcases List.mem_append.1 hx with h|h
  ·rcases List.mem_append.1 h with h|h
   ·obtain ⟨y,_,rfl⟩:=List.mem_map.1 h;rfl
   ·obtain ⟨y,_,rfl⟩:=List.mem_map.1 h;rfl
  ·rw[(List.mem_replicate.1 h).2];rfl)
 rw[← List.map_append] at hN;have e1:(olds++news).toArray=olds.toArray++news.toArray:=by simp
 rw[e1] at hrun;refine ⟨cap',.slice (some ⟨w.heap.size,0,none⟩) (n+k) cap',_,_,dJ ρ s.H.length w.drew.heap.size,hge,dS ho (by rw[tg hR hx];exact hrun),hN,?_,m1.fr.trans m2.fr,fun b hb=>aw _ _ (by omega)⟩;rw[aG];rfl
theorem yD {P:Program} {s:St} {o:Oper} {t tn:TypeId} {x y:Operand} {kn:IntKind} (ho:o.op= .call { callee:= .builtin .append,args:= #[x,y],argTypes:= #[t,tn] }) {sz by_:Nat} {zs:List aa} (hI:dM P t=some (sz,by_,zs)) (htn:P.underlying tn=some (.int kn)) {b n cap k:Nat} {cells:List aa} {fs0:List ag} (hx:s.ev x= .c (.arr b 0 n cap)) (hy:s.ev y= .c (.f (.v (.int .i64 k)))) (hb:s.H[b]? =some (some cells)) (hn:0+n*sz<=cells.length) (hfz:jX ((cells.drop 0).take (n*sz))=some fs0)
  (h0:0<k) (hg:cap<n+k) (h63:n+k<=4611686018427387904) (hby:(n+k)*by_<=140737488355328) {a:Act} {w:World} {κ:Nat->BK} {ρ:Nat->Nat} (hR:Rel s a w κ ρ):
  ∃ cap' v w' κ' ρ',n+k<=cap'/\(execOp a.eval o).run P w= .ok (.value v) w'/\Rel { s with H:=s.H++[some (fs0.map aa.f++List.replicate ((cap'-n)*sz) .any)] } a w' κ' ρ'/\v= .slice (some ⟨ρ' s.H.length,0,none⟩) (n+k) cap'/\Fr w κ w' κ'/\ ∀ b,b<s.H.length->ρ' b=ρ b:=by
 obtain ⟨e,i,z,hu,hi,hz,rfl,rfl,rfl,hsz,hpos,h1⟩:=fL hI;have hB:=hR.heap.dk b cells hb;obtain ⟨olds,hl,hra,hre⟩:=hB.part 0 (n*i.size) (nw hB hn hfz) hn;obtain ⟨f1,f2⟩:=iC _ fs0 hfz;have f1':fs0.length=n*i.size:=by rw[f1];simp;omega
 have hrep: ∀ j (h:j<fs0.length) (h':j<olds.length),cy w κ fs0[j] olds[j]:=fun j hj hj'=>by
  have h3:=hre j (by omega) hj';have h4:=f2 j (by rw[← f1];exact hj) hj;simp only[List.getElem_take,List.getElem_drop] at h4
  exact aa.nf h3 h4
 have hold:(Builtin.firstCells i.size n (.slice (some ⟨ρ b,0,none⟩) n cap)).run P w.drew= .ok olds.toArray w.drew:=by
  have:=jH (P:=P) w.drew i.size (ρ b) 0 n cap n olds hra (by omega)
  rwa [List.take_of_length_le (by omega)] at this
 have hfit:=growslice_fits (need:=n+k) (old:=cap) (bytes:=i.bytes) hg hby;have hkb:k*i.bytes<=(n+k)*i.bytes:=Nat.mul_le_mul_right _ (by omega);have hrun:=Go.Lib.run_append_grow_zeros (P:=P) w t tn o.type e i z .i64 kn hu htn hi hz (some ⟨ρ b,0,none⟩) n cap olds hold k h0 hpos hg (by omega) (by omega) hfit;have hge:n+k<=grownCap w (n+k) cap e:=grownCap_ge w (n+k) cap e;generalize grownCap w (n+k) cap e=cap' at*
 have m1:=ke s.H.length w κ ρ;have hR1:=hR.mv m1 (fun _ h=>h);have hg2:=m1.grow;have hC1:bU w.drew κ ρ (fs0.map aa.f) olds.toArray:=pR (by omega) fun j hj hj'=>(hrep j hj hj').grow hg2
 have hC2:bU w.drew κ ρ (List.replicate ((cap'-n)*i.size) .any) (Builtin.zeroCells z.cells k++Builtin.zeroCells z.cells (cap'-(n+k))):=by
  refine yA (by rw[Array.size_append,mA,mA,hsz,← Nat.add_mul];congr 1;omega) fun j hj=> ?_
  have k1:=om (z:=z.cells) (n:=k) (by omega) h1;have k2:=om (z:=z.cells) (n:=cap'-(n+k)) (by omega) h1;by_cases hlt:j<(Builtin.zeroCells z.cells k).size
  ·rw[Array.getElem_append_left hlt];exact k1 j hlt
  ·rw[Array.getElem_append_right (by omega)];exact k2 _ _
 have hC:=kM hC1 hC2;rw[← Array.append_assoc] at hC
 have m2:=dU s.H.length w.drew κ ρ (.cells (olds.toArray++Builtin.zeroCells z.cells k++Builtin.zeroCells z.cells (cap'-(n+k))) e) (.wr s.H.length) (dJ ρ s.H.length w.drew.heap.size) (fun b hb=>aw _ _ (by omega));have hN:=hR1.new e hC (fun x hx=>by
  rcases List.mem_append.1 hx with h|h
  ·obtain ⟨y,_,rfl⟩:=List.mem_map.1 h;rfl
  ·rw[(List.mem_replicate.1 h).2];rfl)
 have hyv:a.eval y= .int .i64 k:=by
  have:=hR.ev (l:= .slot 0) y;rw[hy] at this
  exact (eX.1 this).1
 refine ⟨cap',.slice (some ⟨w.heap.size,0,none⟩) (n+k) cap',_,_,dJ ρ s.H.length w.drew.heap.size,hge,dS ho (by rw[tg hR hx,hyv];exact hrun),hN,?_,m1.fr.trans m2.fr,fun b hb=>aw _ _ (by omega)⟩;rw[aG];rfl
section
variable {P:Program} {ops:Array Oper} {rest:List Oper} {d:Nat} {ty:TypeId} {pos:String} {af:Array Edge} {K:St->Prop} {l:SL} {H:SH}
theorem yo (b:SB) (v:SE):SS ((d,v)::l) (H++[some b])=({ (SS l H) with H:=(SS l H).H++[some b.den] }:St).put (some d) v.den:=by
 rw[← qQ,← eK (H:=H),bY];have e:aR (H++[some b])=aR H++[some b.den]:=by simp[aR,mG]
 rw[e];rfl
theorem AT {α:Type} {F:α->List ag} {V:α->List SC} {M:List ag->Option α} {e:α} {z:Nat} (hF: ∀ x,(F x).length=z) (hfz: ∀ y,jX ((F y).map aa.f)=some (F y)) (B:List α) (m n:Nat) (hn:n<=B.length):0+n*z<=(SB.elo z F V M e B m).den.length/\jX (((SB.elo z F V M e B m).den.drop 0).take (n*z))=some ((B.take n).flatMap F):=by
 have hB:=aK F z hF B;have hle:n*z<=B.length*z:=Nat.mul_le_mul_right _ hn;refine ⟨by simp only[SB.den,List.length_append,List.length_map,List.length_replicate];omega,?_⟩;simp only[SB.den,List.drop_zero];rw[List.take_append_of_le_length (by rw[List.length_map];omega),← List.map_take,cF F z hF,lV hfz]
theorem Oo {t tx:TypeId} {x y:Operand} {z b n cap b2 k2 cap2 by_ m:Nat} {zs:List aa} {α:Type} {F:α->List ag} {V:α->List SC} {M:List ag->Option α} {e:α} {B C:List α}
  (hI:dM P t=some (z,by_,zs)) (hz2:bl P tx=some z) (hx:m6 l x=some (.c (.c (.arr b 0 n cap)))) (hy:m6 l y=some (.c (.c (.arr b2 0 k2 cap2)))) (hH:nth H b=some (some (.elo z F V M e B m))) (hH2:nth H b2=some (some (.bF z F V M e C))) (hF: ∀ x,(F x).length=z) (hfz: ∀ y,jX ((F y).map aa.f)=some (F y))
  (hn:B.length=n) (hk:C.length=k2) (hg:cap<n+k2) (h63:n+k2<=4611686018427387904) (hby:(n+k2)*by_<=140737488355328)
  (h: ∀ cap',n+k2<=cap'->WR P ops rest (SS ((d,.v (.c (.c (.arr H.length 0 (n+k2) cap'))))::l) (H++[some (.elo z F V M e (B++C) ((cap'-(n+k2))*z))])) (.plain K)):
  WR P ops (⟨some d,.call { callee:= .builtin .append,args:= #[x,y],argTypes:= #[t,tx] },ty,pos,af,none⟩::rest) (SS l H) (.plain K):=by
 subst hn;subst hk;have hx2:(SS l H).ev x= .c (.arr b 0 B.length cap):=cm hx;have hy2:(SS l H).ev y= .c (.arr b2 0 C.length cap2):=cm hy;have hbb:(SS l H).H[b]? =some (some (SB.elo z F V M e B m).den):=by rw[bY];exact dz hH
 have hbb2:(SS l H).H[b2]? =some (some ((C.flatMap F).map aa.f)):=by rw[bY];exact dz hH2
 have hfC:=aK F z hF C;obtain ⟨q1,q2⟩:=AT (V:=V) (M:=M) (e:=e) hF hfz B m B.length (Nat.le_refl _);rw[List.take_length] at q2
 have hsrc:bo P (SS l H) z tx y=some (C.length,C.flatMap F):=by
  unfold bo;rw[hy2];show (match bl P tx,(SS l H).H[b2]? with|_,_=>_)=_
  rw[hz2,hbb2];show (if _ then _ else _)=_
  rw[if_pos ⟨rfl,by rw[List.length_map,hfC,Nat.zero_add];exact Nat.le_refl _⟩,List.drop_zero,List.take_of_length_le (by rw[List.length_map,hfC];exact Nat.le_refl _),lV hfz]
 refine kj (au rfl) (fun c:{ c:Nat // B.length+C.length<=c }=>SS ((d,.v (.c (.c (.arr H.length 0 (B.length+C.length) c.1))))::l) (H++[some (.elo z F V M e (B++C) ((c.1-(B.length+C.length))*z))])) (fun c=>by rw[bY,bY,aI,aI];simp) (fun a w κ ρ hR ht next Q hnx=> ?_) (fun c=>h c.1 c.2);obtain ⟨cap',v,w',κ',ρ',k1,k2,k3,rfl,k5,k6⟩:=Au (o:=⟨some d,.call { callee:= .builtin .append,args:= #[x,y],argTypes:= #[t,tx] },ty,pos,af,none⟩) rfl hI hx2 hbb q1 q2 hsrc hg h63 hby hR;unfold Oper.wp;rw[k2];refine hnx ⟨cap',k1⟩ _ w' κ' ρ' ?_ k5 (fun b hb=>k6 b hb) (dt _ _ _);show Rel (SS _ _) _ _ _ _
 rw[yo];rw[← List.flatMap_append] at k3;refine k3.put (fun t e=>ht t e) (fun t _=> ?_) ?_
 ·show _=_
  simp[bY,aI]
 ·simp[SE.den,SV.den,SC.den,ad.ok,aa.ok,bY,aI]
theorem LF {t tn:TypeId} {kn:IntKind} {x y:Operand} {z b n cap k by_ m:Nat} {yi:Int} {zs:List aa} {α:Type} {F:α->List ag} {V:α->List SC} {M:List ag->Option α} {e:α} {B:List α}
  (hI:dM P t=some (z,by_,zs)) (htn:P.underlying tn=some (.int kn)) (hx:m6 l x=some (.c (.c (.arr b 0 n cap)))) (hy:m6 l y=some (.c (xI yi))) (hyk:yi=(k:Nat)) (hH:nth H b=some (some (.elo z F V M e B m))) (hF: ∀ x,(F x).length=z) (hfz: ∀ y,jX ((F y).map aa.f)=some (F y))
  (hn:n<=B.length) (h0:0<k) (hg:cap<n+k) (h63:n+k<=4611686018427387904) (hby:(n+k)*by_<=140737488355328)
  (h: ∀ cap',n+k<=cap'->WR P ops rest (SS ((d,.v (.c (.c (.arr H.length 0 (n+k) cap'))))::l) (H++[some (.elo z F V M e (B.take n) ((cap'-n)*z))])) (.plain K)):
  WR P ops (⟨some d,.call { callee:= .builtin .append,args:= #[x,y],argTypes:= #[t,tn] },ty,pos,af,none⟩::rest) (SS l H) (.plain K):=by
 subst hyk;have hx2:(SS l H).ev x= .c (.arr b 0 n cap):=cm hx;have hy2:(SS l H).ev y= .c (.f (.v (.int .i64 k))):=cm hy;have hbb:(SS l H).H[b]? =some (some (SB.elo z F V M e B m).den):=by rw[bY];exact dz hH
 obtain ⟨q1,q2⟩:=AT (V:=V) (M:=M) (e:=e) hF hfz B m n hn;refine kj (au rfl) (fun c:{ c:Nat // n+k<=c }=>SS ((d,.v (.c (.c (.arr H.length 0 (n+k) c.1))))::l) (H++[some (.elo z F V M e (B.take n) ((c.1-n)*z))])) (fun c=>by rw[bY,bY,aI,aI];simp) (fun a w κ ρ hR ht next Q hnx=> ?_) (fun c=>h c.1 c.2);obtain ⟨cap',v,w',κ',ρ',k1,k2,k3,rfl,k5,k6⟩:=yD (o:=⟨some d,.call { callee:= .builtin .append,args:= #[x,y],argTypes:= #[t,tn] },ty,pos,af,none⟩) rfl hI htn hx2 hy2 hbb q1 q2 h0 hg h63 hby hR;unfold Oper.wp;rw[k2];refine hnx ⟨cap',k1⟩ _ w' κ' ρ' ?_ k5 (fun b hb=>k6 b hb) (dt _ _ _);show Rel (SS _ _) _ _ _ _
 rw[yo];refine k3.put (fun t e=>ht t e) (fun t _=> ?_) ?_
 ·show _=_
  simp[bY,aI]
 ·simp[SE.den,SV.den,SC.den,ad.ok,aa.ok,bY,aI]
theorem Ix {t te:TypeId} {x:Operand} {b off n cap:Nat} (hte:P.underlying t=some (.slice te)) (hx:m6 l x=some (.c (.c (.arr b off n cap)))) (h:WR P ops rest (SS ((d,.v (vI cap))::l) H) (.plain K)):
  WR P ops (⟨some d,.call { callee:= .builtin .cap,args:= #[x],argTypes:= #[t] },ty,pos,af,none⟩::rest) (SS l H) (.plain K):=by
 refine kj (au rfl) (fun _:Unit=>SS ((d,.v (vI cap))::l) H) (fun _=>by rw[bY,bY];exact Nat.le_refl _) (fun a w κ ρ hR hdt next Q hn=> ?_) (fun _=>h);have hv:a.eval x= .slice (some ⟨ρ b,off,none⟩) n cap:=by
  have:=hR.ev (l:= .slot 0) x;rw[cm hx] at this
  exact this
 have hrun:(execOp a.eval ⟨some d,.call { callee:= .builtin .cap,args:= #[x],argTypes:= #[t] },ty,pos,af,none⟩).run P w= .ok (.value (.int .i64 cap)) w:=by
  simp[execOp,resolve,invoke,builtin,hv,Builtin.cap_,run_underlying hte]
  try rfl
 unfold Oper.wp;rw[hrun];refine hn () _ w κ ρ ?_ (Fr.refl _ _) (fun _ _=>rfl) (dt _ _ _);rw[← qQ];exact hR.put (fun t e=>hdt t e) (fun _ _=>cy.v _ rfl) rfl
theorem LC {c:Call} {f:FuncId} {x y:Operand} {b off n cap b2 off2 n2 cap2:Nat} {B B2:SB} {fn:Func} {tS tR e:TypeId} {size:Nat}
  (hc:cf ⟨some d,.call c,ty,pos,af,none⟩=some (f,[x,y])) (hf:P.funcs[f]? =some fn) (hname:(fn.name== "runtime.NumGoroutine")=false) (hb0:fn.body.isNone=true) (hn0:Extern.findNext fn=none) (he:Extern.find fn=some (Extern.SlicesOverlaps.overlaps #[tS,tS] #[tR])) (ht:P.underlying tS=some (.slice e)) (hz:bl P tS=some size)
  (hx:m6 l x=some (.c (.c (.arr b off n cap)))) (hy:m6 l y=some (.c (.c (.arr b2 off2 n2 cap2)))) (hH:nth H b=some (some B)) (hH2:nth H b2=some (some B2)) (hk:gE B.den=true) (hk2:gE B2.den=true) (hne:b≠b2) (hpos:0<B2.den.length)
  (h:WR P ops rest (SS ((d,.v (vB false))::l) H) (.plain K)):WR P ops (⟨some d,.call c,ty,pos,af,none⟩::rest) (SS l H) (.plain K):=by
 refine kj (au rfl) (fun _:Unit=>SS ((d,.v (vB false))::l) H) (fun _=>by rw[bY,bY];exact Nat.le_refl _) (fun a w κ ρ hR hdt next Q hn=> ?_) (fun _=>h);have hv:a.eval x= .slice (some ⟨ρ b,off,none⟩) n cap:=by
  have:=hR.ev (l:= .slot 0) x;rw[cm hx] at this
  exact this
 have hv2:a.eval y= .slice (some ⟨ρ b2,off2,none⟩) n2 cap2:=by
  have:=hR.ev (l:= .slot 0) y;rw[cm hy] at this
  exact this
 have hB:=hR.heap.dk b B.den (by rw[bY];exact dz hH);have hB2:=hR.heap.dk b2 B2.den (by rw[bY];exact dz hH2);obtain ⟨c1,e1,p1,p2,_⟩:=hB.JE hk;obtain ⟨c2,e2,r1,r2,_⟩:=hB2.JE hk2;have hgne:ρ b≠ρ b2:=fun e=>by
  have k1:=hB.own;rw[e,hB2.own] at k1
  injection k1 with k1;exact hne k1.symm
 have hov:(callFunc f #[a.eval x,a.eval y]).run P w= .ok (.value (.bool false)) w:=by
  obtain ⟨e',i',hu',hi',hs'⟩:=dH hz;rw[ht] at hu';injection hu' with hu';injection hu' with hu';subst hu';rw[run_callFunc_extern hf hname hb0 hn0 he,hv,hv2,
   Go.Lib.run_overlaps_apart w tS tR e ht size (fun w=>by simp[Go.sizeOf,typeInfo,hi',hs']) ⟨ρ b,off,none⟩ ⟨ρ b2,off2,none⟩ n cap n2 cap2 hgne e1 e2 c1.size c2.size (by simp[World.shape?,p1]) (by simp[World.shape?,r1]) (by omega) (by simp[World.frozen?,p1]) (by simp[World.frozen?,p1])]
  rfl
 have hrun:(execOp a.eval ⟨some d,.call c,ty,pos,af,none⟩).run P w= .ok (.value (.bool false)) w:=by
  unfold cf at hc;simp only at hc;split at hc
  ·rename_i g hg
   injection hc with hc;injection hc with e1 e2;subst e1;have hargs:c.args.map a.eval= #[a.eval x,a.eval y]:=by
    have:c.args= #[x,y]:=by rw[← Array.toList_inj,e2]
    rw[this];simp
   have hev:a.eval (.func g)= .func (.func g) #[] #[]:=rfl;simp only[execOp,resolve,hg,hev,Deferred.ofValue,Sem.run_bind,Sem.run_pure,Result.andThen_ok,invoke,hargs];simp[hov]
  ·cases hc
 unfold Oper.wp;rw[hrun];refine hn () _ w κ ρ ?_ (Fr.refl _ _) (fun _ _=>rfl) (dt _ _ _);rw[← qQ];exact hR.put (fun t e=>hdt t e) (fun _ _=>cy.v _ rfl) rfl
end
def Ng:Tb:=⟨lH.sz,lH.fo,lH.fa,[],[],lH.bi,lH.ze,lH.st,lH.it,lH.sl,lH.eq,lH.cb,lH.qt⟩
theorem PV:Ng.Ok Tryz.prog:=⟨gA.sz,gA.fo,gA.fa,(by simp only[Ng,List.map_nil]),(by simp only[Ng,List.map_nil]),gA.bi,gA.ze,gA.st,gA.it,gA.sl,gA.eq,gA.cb⟩
theorem uc {ops:Array Oper} {rest:List Oper} {l:SL} {H:SH} {R:Rg} {rest':List Oper} {l':SL} {H':SH} {R':Rg} {p:Prop} (h:Ko Ng bF ops rest l H R=some ⟨rest',l',H',R',p⟩) (hp:p) (hk:WR Tryz.prog ops rest' (SS l' H') R'):WR Tryz.prog ops rest (SS l H) R:=zI PV uI h hp hk
theorem LX {P:Program} {s:St} {o:Oper} {t:TypeId} {len:Nat} {parts:Array (Nat×Operand)} (ho:o.op= .buildSlice t len parts) {sz by_:Nat} {zs:List aa} (hI:dM P t=some (sz,by_,zs)) {ps:List (Nat×List aa)} (hp:fh s parts.toList=some ps) (hlen:len*sz<=16777216) {cs:List aa} (hf:jA (.elems sz) (dc zs len) ps=some cs) {a:Act} {w:World} {κ:Nat->BK} {ρ:Nat->Nat} (hR:Rel s a w κ ρ):
  ∃ us e,(execOp a.eval o).run P w= .ok (.value (.slice (some ⟨w.heap.size,0,none⟩) len len)) (w.alloc (.cells us e))/\bU w κ ρ cs us:=by
 obtain ⟨e,i,z,hu,hi,hz,rfl,rfl,rfl,hsz,hpos,h1⟩:=fL hI;obtain ⟨k1,k2⟩:=mi hR parts.toList ps hp;have hm:bU w κ ρ (dc (z.cells.toList.map qL) len) (madeCells z.cells (len*i.size)):=by rw[← hsz];exact nr z.cells len (by omega) h1
 obtain ⟨us,hu1,hu2⟩:=uQ (.elems i.size) (fun j=>some (j*i.size,i.size)) (fun _=>rfl) k1 _ cs _ hm hf;refine ⟨us,e,?_,hu2⟩;have hn: ¬ (16777216<len*i.size):=by omega
 have hfill:Instr.fill (fun j=>some (j*i.size,i.size)) (madeCells z.cells (len*i.size)) (parts.toList.map fun p=>(p.1,a.eval p.2))=some us:=hu1;by_cases hz0:len*i.size=0
 ·have hm0:madeCells z.cells (len*i.size)= #[]:=Array.eq_empty_of_size_eq_zero (by rw[size_madeCells,hz0])
  rw[hm0] at hfill;have hr0:(Array.range 0).map (fun _=>(default:Value))= #[]:=Array.eq_empty_of_size_eq_zero (by simp);simp only[execOp,ho,Instr.buildSlice,Sem.run_bind,run_underlying hu w,Result.andThen_ok,sizeOf,typeInfo,program,Sem.run,hi];simp[Sem.run,hi,hn,hz0,hr0,hfill,newRow]
 ·simp only[execOp,ho,Instr.buildSlice,Sem.run_bind,run_underlying hu w,Result.andThen_ok,sizeOf,typeInfo,program,Sem.run,hi]
  unfold madeCells at hfill;simp[Sem.run,hi,hn,hz0,hz,hfill,newRow,zeroValue,typeInfo]
section
variable {P:Program} {ops:Array Oper} {rest:List Oper} {d:Nat} {ty:TypeId} {pos:String} {af:Array Edge} {K:St->Prop} {l:SL} {H:SH}
theorem Iv {t:TypeId} {x:Operand} {v2:SV} {α:Type} {z by_:Nat} {zs:List aa} {F:α->List ag} {V:α->List SC} (M:List ag->Option α) (e r:α) (hI:dM P t=some (z,by_,zs)) (hx:m6 l x=some v2) (hp:v2.den.aQ.cells=some ((F r).map aa.f)) (hz:Nat.ble (1*z) 16777216=true) (hf:jA (.elems z) (dc zs 1) [(0,(F r).map aa.f)]=some ((F r).map aa.f))
  (h:WR P ops rest (SS ((d,.v (.c (.c (.arr H.length 0 1 1))))::l) (H++[some (.bF z F V M e [r])])) (.plain K)):WR P ops (⟨some d,.buildSlice t 1 #[(0,x)],ty,pos,af,none⟩::rest) (SS l H) (.plain K):=by
 refine kj (au rfl) (fun _:Unit=>SS ((d,.v (.c (.c (.arr H.length 0 1 1))))::l) (H++[some (.bF z F V M e [r])])) (fun _=>by rw[bY,bY,aI,aI];simp) (fun a w κ ρ hR hdt next Q hn=> ?_) (fun _=>h);have hpc:fh (SS l H) (#[(0,x)]:Array (Nat×Operand)).toList=some [(0,(F r).map aa.f)]:=by
  have e1:((SS l H).ev x).aQ.cells=some ((F r).map aa.f):=by rw[cm hx,hp]
  show fh (SS l H) [(0,x)]=_;simp only[fh,e1]
 obtain ⟨us,e',k1,k2⟩:=LX (o:=⟨some d,.buildSlice t 1 #[(0,x)],ty,pos,af,none⟩) rfl hI hpc (Nat.le_of_ble_eq_true hz) hf hR;have hN:=hR.new e' k2 (fun x hx=>by
  obtain ⟨y,_,rfl⟩:=List.mem_map.1 hx;rfl)
 have m2:=dU (SS l H).H.length w κ ρ (.cells us e') (.wr (SS l H).H.length) (dJ ρ (SS l H).H.length w.heap.size) (fun b hb=>aw _ _ (by omega));unfold Oper.wp;rw[k1];refine hn () _ _ _ (dJ ρ (SS l H).H.length w.heap.size) ?_ m2.fr (fun b hb=>aw _ _ (by omega)) (dt _ _ _);have hd:(SB.bF z F V M e [r]).den=(F r).map aa.f:=by simp[SB.den]
 rw[yo,hd];refine hN.put (fun t e=>hdt t e) (fun t _=> ?_) ?_
 ·show _=_
  rw[bY,aI,aG]
 ·simp[SE.den,SV.den,SC.den,ad.ok,aa.ok,bY,aI]
theorem IC {R:Rg} {d:Option Tmp} {t:TypeId} {x hi:Operand} {z b off n cap m:Nat} {h0:Int} (hz:bl P t=some z) (hx:m6 l x=some (.c (.c (.arr b off n cap)))) (hh:m6 l hi=some (.c (xI h0))) (hm:h0=(m:Nat)) (hc:m<=cap) {l':SL} (hl:(match d with|some d=>some ((d,SE.v (.c (.c (.arr b off m cap))))::l)|none=>some l)=some l')
  (h:WR P ops rest (SS l' H) (R.push .q0)):WR P ops (⟨d,.slice t x none (some hi) none,ty,pos,af,none⟩::rest) (SS l H) R:=by
 subst hm;have hx2:(SS l H).ev x= .c (.arr b off n cap):=cm hx;have hh2:(SS l H).ev hi= .c (.f (.v (.int .i64 m))):=cm hh;have e:SS l' H=(SS l H).put d (.c (.arr b off m cap)):=by
  split at hl<;>injection hl with hl<;>subst hl<;>rfl
 rw[e] at h;refine cz (au rfl) rfl ?_ (dh rfl rfl rfl) h;show dK P (SS l H) _ t x none (some hi) none=_
 unfold dK;rw[hz,hx2];have e1:(ad.c (aa.arr b off n cap)).aQ= .c (.arr b off n cap):=rfl;have e2:gj (SS l H) (some hi) n=some (m:Int):=by
  unfold gj;simp only[hh2];rfl
 have e3:gj (SS l H) none 0=some 0:=rfl;rw[e1];simp only[e2,e3];rw[if_pos ⟨Int.le_refl _,by omega,by omega⟩];simp
theorem ID {R:Rg} {d:Nat} {t:TypeId} {x lo:Operand} {z b off n cap:Nat} {a:Int} (hz:bl P t=some z) (hx:m6 l x=some (.c (.c (.arr b off n cap)))) (hh:m6 l lo=some (.c (xI a))) (h0:0<=a) (h1:a<=n) (h2:n<=cap)
  (h: ∀ o',(a<n->o'=off+a.toNat*z)->WR P ops rest (SS ((d,.v (.c (.c (.arr b o' ((n:Int)-a).toNat (cap-a.toNat)))))::l) H) (R.push .q0)):WR P ops (⟨some d,.slice t x (some lo) none none,ty,pos,af,none⟩::rest) (SS l H) R:=by
 have hx2:(SS l H).ev x= .c (.arr b off n cap):=cm hx;have hh2:(SS l H).ev lo= .c (.f (.v (.int .i64 a))):=cm hh;exact yl (s:=SS l H) (d:=some d) hz hx2 (by unfold gj;simp only[hh2];rfl) h0 h1 h2 (fun o' k1 _=>h o' k1)
theorem IE {R:Rg} {d:Nat} {t:TypeId} {x:Operand} {lo hi:Option Operand} {z:Nat} (hz:bl P t=some z) (hx:m6 l x=some (.c (.c (.f .nils)))) (hlo: ∀ y,lo=some y->m6 l y=some (.c (xI 0))) (hhi: ∀ y,hi=some y->m6 l y=some (.c (xI 0)))
  (h:WR P ops rest (SS ((d,.v (.c (.c (.f .nils))))::l) H) (R.push .q0)):WR P ops (⟨some d,.slice t x lo hi none,ty,pos,af,none⟩::rest) (SS l H) R:=by
 have hx2:(SS l H).ev x= .c (.f .nils):=cm hx;have hb: ∀ y:Option Operand,(∀ o,y=some o->m6 l o=some (.c (xI 0)))->gj (SS l H) y 0=some 0:=fun y hy=>by
  cases y with
  |none=>rfl
  |some o=>
   have:(SS l H).ev o= .c (.f (.v (.int .i64 0))):=cm (hy o rfl);unfold gj;simp only[this];rfl
 have h1:=hb lo hlo;have h2:=hb hi hhi;refine cz (au rfl) rfl ?_ (dh rfl rfl rfl) h;show dK P (SS l H) _ t x lo hi none=_
 unfold dK;rw[hz,hx2];have e1:(ad.c (aa.f .nils)).aQ= .c (.f .nils):=rfl;rw[e1];simp only[h1,h2];rfl
theorem yC {P:Program} {s:St} {o:Oper} {t tx:TypeId} {x y:Operand} (ho:o.op= .call { callee:= .builtin .append,args:= #[x,y],argTypes:= #[t,tx] }) {sz by_:Nat} {zs:List aa} (hI:dM P t=some (sz,by_,zs)) {k:Nat} {fs:List ag} (hx:s.ev x= .c (.f .nils))
  (hsrc:bo P s sz tx y=some (k,fs)) (hg:0<k) (h63:k<=4611686018427387904) (hby:k*by_<=140737488355328) {a:Act} {w:World} {κ:Nat->BK} {ρ:Nat->Nat} (hR:Rel s a w κ ρ):
  ∃ cap' v w' κ' ρ',k<=cap'/\(execOp a.eval o).run P w= .ok (.value v) w'/\Rel { s with H:=s.H++[some (fs.map aa.f++List.replicate ((cap'-k)*sz) .any)] } a w' κ' ρ'/\v= .slice (some ⟨ρ' s.H.length,0,none⟩) k cap'/\Fr w κ w' κ'/\ ∀ b,b<s.H.length->ρ' b=ρ b:=by
 obtain ⟨e,i,z,hu,hi,hz,rfl,rfl,rfl,hsz,hpos,h1⟩:=fL hI;obtain ⟨news,hs,hn1,hn2,hn3⟩:=fR hsrc hR;have hv:a.eval x= .slice none 0 0:=by
  have:=hR.ev (l:= .slot 0) x;rw[hx] at this
  exact dR.1 this
 have hold:(Builtin.firstCells i.size 0 (.slice none 0 0)).run P w.drew= .ok ([]:List Value).toArray w.drew:=rfl;have hfit:=growslice_fits (need:=0+k) (old:=0) (bytes:=i.bytes) (by omega) (by rw[Nat.zero_add];exact hby);have hrun:=run_append_grow_src (P:=P) w t tx o.type e i z hu hi hz none 0 0 [] hold (a.eval y) k news hs (by omega) (by omega) hfit;have hge:0+k<=grownCap w (0+k) 0 e:=grownCap_ge w (0+k) 0 e;generalize grownCap w (0+k) 0 e=cap' at*
 rw[Nat.zero_add] at hrun hge;have m1:=ke s.H.length w κ ρ;have hR1:=hR.mv m1 (fun _ h=>h);have hg2:=m1.grow;have hC1:bU w.drew κ ρ (fs.map aa.f) news.toArray:=pR hn1 fun j hj hj'=>(hn3 j hj hj').grow hg2
 have hC2:bU w.drew κ ρ (List.replicate ((cap'-k)*i.size) .any) (Builtin.zeroCells z.cells (cap'-k)):=yA (by rw[mA,hsz]) (om (by omega) h1);have hC:=kM hC1 hC2;have m2:=dU s.H.length w.drew κ ρ (.cells (news.toArray++Builtin.zeroCells z.cells (cap'-k)) e) (.wr s.H.length) (dJ ρ s.H.length w.drew.heap.size) (fun b hb=>aw _ _ (by omega));have hN:=hR1.new e hC (fun x hx=>by
  rcases List.mem_append.1 hx with h|h
  ·obtain ⟨y,_,rfl⟩:=List.mem_map.1 h;rfl
  ·rw[(List.mem_replicate.1 h).2];rfl)
 rw[List.nil_append] at hrun;refine ⟨cap',.slice (some ⟨w.heap.size,0,none⟩) k cap',_,_,dJ ρ s.H.length w.drew.heap.size,hge,dS ho (by rw[hv];exact hrun),hN,?_,m1.fr.trans m2.fr,fun b hb=>aw _ _ (by omega)⟩;rw[aG];rfl
theorem LD {t tx:TypeId} {x y:Operand} {z b2 k2 cap2 by_:Nat} {zs:List aa} {α:Type} {F:α->List ag} {V:α->List SC} {M:List ag->Option α} {e:α} {C:List α}
  (hI:dM P t=some (z,by_,zs)) (hz2:bl P tx=some z) (hx:m6 l x=some (.c (.c (.f .nils)))) (hy:m6 l y=some (.c (.c (.arr b2 0 k2 cap2)))) (hH2:nth H b2=some (some (.bF z F V M e C))) (hF: ∀ x,(F x).length=z) (hfz: ∀ y,jX ((F y).map aa.f)=some (F y))
  (hk:C.length=k2) (hg:0<k2) (h63:k2<=4611686018427387904) (hby:k2*by_<=140737488355328)
  (h: ∀ cap',k2<=cap'->WR P ops rest (SS ((d,.v (.c (.c (.arr H.length 0 k2 cap'))))::l) (H++[some (.elo z F V M e C ((cap'-k2)*z))])) (.plain K)):
  WR P ops (⟨some d,.call { callee:= .builtin .append,args:= #[x,y],argTypes:= #[t,tx] },ty,pos,af,none⟩::rest) (SS l H) (.plain K):=by
 subst hk;have hx2:(SS l H).ev x= .c (.f .nils):=cm hx;have hy2:(SS l H).ev y= .c (.arr b2 0 C.length cap2):=cm hy;have hbb2:(SS l H).H[b2]? =some (some ((C.flatMap F).map aa.f)):=by rw[bY];exact dz hH2
 have hfC:=aK F z hF C;have hsrc:bo P (SS l H) z tx y=some (C.length,C.flatMap F):=by
  unfold bo;rw[hy2];show (match bl P tx,(SS l H).H[b2]? with|_,_=>_)=_
  rw[hz2,hbb2];show (if _ then _ else _)=_
  rw[if_pos ⟨rfl,by rw[List.length_map,hfC,Nat.zero_add];exact Nat.le_refl _⟩,List.drop_zero,List.take_of_length_le (by rw[List.length_map,hfC];exact Nat.le_refl _),lV hfz]
 refine kj (au rfl) (fun c:{ c:Nat // C.length<=c }=>SS ((d,.v (.c (.c (.arr H.length 0 C.length c.1))))::l) (H++[some (.elo z F V M e C ((c.1-C.length)*z))])) (fun c=>by rw[bY,bY,aI,aI];simp) (fun a w κ ρ hR ht next Q hnx=> ?_) (fun c=>h c.1 c.2);obtain ⟨cap',v,w',κ',ρ',k1,k2,k3,rfl,k5,k6⟩:=yC (o:=⟨some d,.call { callee:= .builtin .append,args:= #[x,y],argTypes:= #[t,tx] },ty,pos,af,none⟩) rfl hI hx2 hsrc hg h63 hby hR;unfold Oper.wp;rw[k2];refine hnx ⟨cap',k1⟩ _ w' κ' ρ' ?_ k5 (fun b hb=>k6 b hb) (dt _ _ _);show Rel (SS _ _) _ _ _ _
 rw[yo];refine k3.put (fun t e=>ht t e) (fun t _=> ?_) ?_
 ·show _=_
  simp[bY,aI]
 ·simp[SE.den,SV.den,SC.den,ad.ok,aa.ok,bY,aI]
def ED (l:SL):List Operand->Option (List SV)
 |[]=>some []
 |x::xs=>match m6 l x,ED l xs with
  |some v,some r=>some (v::r)
  |_,_=>none
theorem wO: ∀ (xs:List Operand) (ws:List SV),ED l xs=some ws->ws.length=xs.length/\ ∀ i (h:i<xs.length) (h':i<ws.length),(SS l H).ev xs[i]=ws[i].den
 |[],ws,h=>by injection h with h;subst h;exact ⟨rfl,fun i h=>by simp at h⟩
 |x::xs,ws,h=>by
  unfold ED at h;split at h
  ·rename_i v r h1 h2
   injection h with h;subst h;obtain ⟨k1,k2⟩:=wO xs r h2;refine ⟨by simp[k1],fun i hi hi'=> ?_⟩;cases i with
   |zero=>exact cm h1
   |succ i=>exact k2 i (by simpa using hi) (by simpa using hi')
  ·cases h
theorem Iw {d:Option Tmp} {c:Call} {f:FuncId} {vs ws:List SV} {Hs Gs:SH} (bs:List Nat) {γ:Type} {I:γ->Prop} {rs:γ->SV} {Hs':γ->SH} (hO:Lt P f vs Hs I rs Hs')
  (hc:cf ⟨d,.call c,ty,pos,af,none⟩=some (f,c.args.toList)) (ha:ED l c.args.toList=some ws) (hfl:ws.all pY=true) (hv:xG (jn H bs) vs=some ws) (hg:xf H bs=some Gs) (hr1:fU (jn H bs) Hs=some Gs) (hn:ru bs=true) (h4:zv Hs.length vs=true) (h5:jN Hs.length Hs=true)
  (h: ∀ x,I x-> ∃ Gs' r' l' H',fU (jn H bs) (Hs' x)=some Gs'/\BW (jn H bs) (rs x)=some r'/\jN (Hs' x).length (Hs' x)=true/\BL H bs Gs' (fun H'=>some ⟨[],[],H',.plain (fun _=>True),True⟩)=some ⟨[],[],H',.plain (fun _=>True),True⟩/\(match d with|some d=>some ((d,SE.v r')::l)|none=>some l)=some l'/\WR P ops rest (SS l' H') (.plain K)):WR P ops (⟨d,.call c,ty,pos,af,none⟩::rest) (SS l H) (.plain K):=by
 obtain ⟨g1,g2⟩:=n8 hg;have hlen: ∀ X:SH,(aR X).length=X.length:=aI;have hSH:(SS l H).H=aR H:=bY _ _;obtain ⟨a1,a2⟩:=wO (H:=H) _ _ ha;have hbs:Hs.length=bs.length:=by
  have e1:(aR Hs).map (cV (sig (aR H).length bs))=bs.map fun b=>(aR H).getD b none:=by rw[hlen,dv hr1];exact g1.symm
  have:=congrArg List.length e1;simpa[hlen] using this
 have hS: ∀ x,I x->jN (Hs' x).length (Hs' x)=true/\(SS l H).H.length<=(({ (SS l H) with H:=bt (SS l H).H bs ((aR (Hs' x)).map (cV (sig (SS l H).H.length bs))) }:St).put d ((rs x).den.cW (sig (SS l H).H.length bs))).H.length/\WR P ops rest (({ (SS l H) with H:=bt (SS l H).H bs ((aR (Hs' x)).map (cV (sig (SS l H).H.length bs))) }:St).put d ((rs x).den.cW (sig (SS l H).H.length bs))) (.plain K):=fun x hx=>by
  obtain ⟨Gs',r',l',H',k1,k2,k3,k4,k5,k6⟩:=h x hx;obtain ⟨H2,hP1,hP2⟩:=tF k4;injection hP1 with hP1;injection hP1 with _ _ hP1;subst hP1;have e:SS l' H2=(SS l H2).put d r'.den:=by
   split at k5<;>injection k5 with k5<;>subst k5<;>rfl
  have e3:(({ (SS l H) with H:=bt (SS l H).H bs ((aR (Hs' x)).map (cV (sig (SS l H).H.length bs))) }:St).put d ((rs x).den.cW (sig (SS l H).H.length bs)))=SS l' H2:=by
   rw[hSH,hlen,dv k1,← hP2,ly k2,e,← eK (H':=H2)];rfl
  refine ⟨k3,?_,by rw[e3];exact k6⟩;rw[jk];show _<=(bt (SS l H).H bs ((aR (Hs' x)).map (cV (sig (SS l H).H.length bs)))).length
  have hl2:=(hO.res _ _ ⟨x,hx,rfl,rfl⟩).2.2;rw[hlen,hlen] at hl2
  rw[gx _ _ _ (by simp[hlen];omega)];omega
 refine kj (au rfl) (fun x:{ x:γ // I x }=>(({ (SS l H) with H:=bt (SS l H).H bs ((aR (Hs' x.1)).map (cV (sig (SS l H).H.length bs))) }:St).put d ((rs x.1).den.cW (sig (SS l H).H.length bs)))) (fun x=>(hS x.1 x.2).2.1) (fun a w κ ρ hR hdt next Q hnx=> ?_) (fun x=>(hS x.1 x.2).2.2);unfold Oper.wp;rw[kR rfl hc hO.fn];refine (mY (bs:=bs) (L:=[]) hO (n9 hn) (fun b hb=> ?_) ?_ ?_ ?_ ?_ (fun i hi hix=> .inr ?_) (fun b hb=>by cases hb) (fun r H' hq=> ?_) hR).mono ?_
 ·rw[hSH,hlen];exact g2 b hb
 ·rw[hSH,hlen,dv hr1];exact g1.symm
 ·rw[hlen];exact List.all_eq_true.1 (jO h4)
 ·rw[hlen];exact da h5
 ·have:=congrArg List.length (lz hv)
  simp only[List.length_map] at this⊢;omega
 ·have hiw:i<ws.length:=by omega
  have e1:(vs.map SV.den).map (ad.cW (sig H.length bs))=ws.map SV.den:=lz hv;have e2:((vs.map SV.den).map (ad.cW (sig H.length bs)))[i]'(by simpa using hi)=(ws.map SV.den)[i]'(by simpa using hiw):=by simp only[e1]
  simp only[List.getElem_map] at e2⊢;rw[hSH,hlen,e2,ad.gh,a2 i hix hiw];exact (cG (kT (List.all_eq_true.1 hfl _ (List.getElem_mem hiw)))).symm
 ·obtain ⟨x,hx,rfl,rfl⟩:=hq
  exact ⟨by rw[hlen];exact da (hS x hx).1,.inl rfl⟩
 ·rintro e w' ⟨_,_,⟨x,hx,rfl,rfl⟩,v,κ',ρ',rfl,hR',hr,hrok,hfr,hρ⟩
  exact hnx ⟨x,hx⟩ _ w' κ' ρ' (hR'.put hdt (fun t _=>hr (.slot t)) hrok) hfr hρ (dt _ _ _)
theorem QH {t:Nat} {α:Type} {z:Nat} {F:α->List ag} {V:α->List SC} {M:List ag->Option α} {e:α} {ls:List α} (ht:lk l t=some (.v (.c (.ownr z F V M e ls))))
  (h:WR P ops rest (SS ((d,.v (.c (.ownr z F V M e ls)))::(t,.v (.c (.c (.f (.row [] ls.length)))))::l) H) (.plain K)):WR P ops (⟨some d,.move (.tmp t),ty,pos,af,none⟩::rest) (SS l H) (.plain K):=by
 have hv:(SS l H).sl t= .c (.bg false z (ls.flatMap F) ls.length):=ka ht;have hS:=qT (P:=P) (s:=SS l H) (o:=⟨some d,.move (.tmp t),ty,pos,af,none⟩) (tr:=true) (x:= .tmp t) (fun ρ w=>by simp[execOp]);have ha:fC true (SS l H) (.tmp t)=(.c (.bg false z (ls.flatMap F) ls.length),{ aQ:=some t }):=by
  unfold fC;rw[show (SS l H).ev (.tmp t)=_ from hv]
 rw[ha] at hS;refine kj (au rfl) (fun _:Unit=>SS ((d,.v (.c (.ownr z F V M e ls)))::(t,.v (.c (.c (.f (.row [] ls.length)))))::l) H) (fun _=>by rw[bY,bY];exact Nat.le_refl _) (fun a w κ ρ hR hdt next Q hn=> ?_) (fun _=>h);obtain ⟨v,w',κ',ρ',hy,hR',hr,hrok,hfr,hρ⟩:=hS a w κ ρ hR;have e:SS ((d,.v (.c (.ownr z F V M e ls)))::(t,.v (.c (.c (.f (.row [] ls.length)))))::l) H=((SS l H).nV { aQ:=some t }).put (some d) (.c (.bg false z (ls.flatMap F) ls.length)):=by
  rw[← qQ,← qQ];show _=((SS l H).aQ t).put _ _
  unfold St.aQ;rw[hv];rfl
 have hnext:next (a.put (some d) v) w':=hn () _ w' κ' ρ' (by rw[e];exact hR'.put (fun t e=>hdt t e) (fun t ht=>hr t ht) hrok) hfr hρ (dt _ _ _)
 unfold Oper.wp;rcases hy with hy|⟨hy,rfl⟩
 ·rw[hy];exact hnext
 ·rw[hy];exact hnext
end
def Dg (a b:hW):Bool:=if a.ex≠b.ex then decide (a.ex<b.ex) else if a.tm≠b.tm then decide (a.tm<b.tm) else if a.tr≠b.tr then decide (a.tr<b.tr) else if a.du≠b.du then decide (a.du<b.du) else false
def mI (r:hW) (out:List hW):Nat->Nat
 |0=>0
 |i+1=>if Dg r (out.getD i fW)=true then mI r out i else i+1
theorem zi (r:hW) (out:List hW) (i:Nat):mI r out i<=i:=by
 induction i with
 |zero=>exact Nat.le_refl _
 |succ i ih=>unfold mI;split<;>omega
theorem Bc {r:hW} {out:List hW} {i:Nat} (h:0<i) (he:Dg r (out.getD (i-1) fW)=true):mI r out i=mI r out (i-1):=by
 obtain ⟨j,rfl⟩: ∃ j,i=j+1:=⟨i-1,by omega⟩;exact if_pos he
theorem Bd {r:hW} {out:List hW} {i:Nat} (h: ¬ (0<i/\Dg r (out.getD (i-1) fW)=true)):mI r out i=i:=by
 cases i with
 |zero=>rfl
 |succ j=>exact if_neg fun e=>h ⟨Nat.succ_pos _,e⟩
def oW (r:hW) (out:List hW):List hW:=(out.take (mI r out out.length)++[r])++out.drop (mI r out out.length)
def mE (e n stn count:Int):Int:=if e≠0 then e else if stn<0\/n<=stn then 6 else if count<0\/100<count then 4 else 0
abbrev Ac (A:List hW) (m:Nat):Option SB:=some (.elo 6 gC fw o0 fW A m)
abbrev Ic (A:List hW):Option SB:=some (.bF 6 gC fw o0 fW A)
theorem EX {α:Type} {F:α->List ag} {z:Nat} (hF: ∀ x,(F x).length=z) (A:List α) (m i:Nat) {o k:Nat} (ho:o=i*z) (hk:k=(A.drop i).length*z):((((A.flatMap F).map aa.f++List.replicate m aa.any).drop o).take k)=((A.drop i).flatMap F).map aa.f:=by
 subst ho;subst hk;have hA:=aK F z hF A;have hD:=aK F z hF (A.drop i);rcases Nat.le_total i A.length with hi|hi
 ·have hle:i*z<=A.length*z:=Nat.mul_le_mul_right _ hi
  rw[List.drop_append_of_le_length (by rw[List.length_map];omega),← List.map_drop,dG F z hF,List.take_append_of_le_length (by rw[List.length_map,hD];exact Nat.le_refl _),List.take_of_length_le (by rw[List.length_map,hD];exact Nat.le_refl _)]
 ·rw[List.drop_eq_nil_of_le hi]
  simp
theorem yW {α:Type} {F:α->List ag} {V:α->List SC} {M:List ag->Option α} {e:α} {z:Nat} (hF: ∀ x,(F x).length=z) (A:List α) (m:Nat):(SB.elo z F V M e A m).den.length=A.length*z+m:=by
 simp only[SB.den,List.length_append,List.length_map,List.length_replicate,aK F z hF]
theorem jG (x:hW):(gC x).length=6:=rfl
theorem Be (A:List hW) (r:hW) (i cap:Nat) (hA:A.length<=1000) (hi:i<=A.length) (hc:A.length+1<=cap):
  cd Tryz.prog 142 [.c (.c (.arr 0 0 A.length cap)),vI i,.c (.c (.arr 1 0 1 1))] [Ac A ((cap-A.length)*6),Ic [r]] (.c (.c (.arr 0 0 (A.length+1) cap))) [Ac (A.take i++[r]++A.drop i) ((cap-(A.length+1))*6),Ic [r]]:=by
 by_cases hin:i=A.length
 ·subst hin
  rw[List.take_length,List.drop_length,List.append_nil];refine Iz aA Tryz.func142 rfl (by kernel_rfl) (Nat.le_of_ble_eq_true (by kernel_rfl)) (by kernel_rfl) rfl rfl (nb rfl) rfl rfl ?_;simp only[cu,Nat.zero_add,Nat.reduceAdd]
  repeat' (first|with_reducible (first|refine ab ?_ ?_|exact True.intro|refine DQ ?_|fail)|((with_reducible apply bQ (n:=7)))|with_reducible (refine ay ?_)|((with_reducible apply av);refine aq rfl ?_ ?_;all_goals (intro hbq;(try simp only[bq] at hbq);(try (exfalso;omega))))|refine RQ ?_|omega)
  all_goals first|omega|skip
  refine Stop.mk ?_;refine bC (bX ?_);refine eE rfl ?_ ?_
  ·simp
  refine Ou ((cap-(A.length+1))*6) (by kernel_rfl) (by kernel_rfl) rfl rfl rfl rfl (fun _=>rfl) (fun _=>rfl) rfl rfl hc (by omega) ?_;simp only[List.set_cons_zero]
  repeat' (first|with_reducible (first|refine ab ?_ ?_|exact True.intro|refine DQ ?_|fail)|refine RQ ?_|fail)
  exact yu rfl rfl (.elo rfl (.bF rfl (.nil _)))
 have hin2:i<A.length:=by omega
 have e1:(A.length:Int)+1=((A.length+1:Nat):Int):=by omega
 refine Iz aA Tryz.func142 rfl (by kernel_rfl) (Nat.le_of_ble_eq_true (by kernel_rfl)) (by kernel_rfl) rfl rfl (nb rfl) rfl rfl ?_;simp only[cu,Nat.zero_add,Nat.reduceAdd]
 repeat' (first|with_reducible (first|refine ab ?_ ?_|exact True.intro|refine DQ ?_|fail)|((with_reducible apply bQ (n:=8)))|with_reducible (refine ay ?_)|((with_reducible apply av);refine aq rfl ?_ ?_;all_goals (intro hbq;(try simp only[bq] at hbq);(try (exfalso;omega))))|refine RQ ?_|omega)
 all_goals first|omega|skip
 refine Stop.mk ?_;refine bC (bX ?_);refine eE rfl ?_ ?_
 ·refine ⟨⟨⟨trivial,trivial⟩,?_,?_⟩,trivial⟩<;>omega
 refine Ix (te:=76) (by kernel_rfl) rfl ?_
 repeat' (first|with_reducible (first|refine ab ?_ ?_|exact True.intro|refine DQ ?_|fail)|((with_reducible apply bQ (n:=13)))|with_reducible (refine ay ?_)|((with_reducible apply av);refine aq rfl ?_ ?_;all_goals (intro hbq;(try simp only[bq] at hbq);(try (exfalso;omega))))|refine RQ ?_|fail)
 all_goals first|omega|skip
 refine Stop.mk ?_;refine bC (bX ?_);refine uc rfl ?_ ?_
 ·repeat' (first|exact True.intro|apply And.intro|omega)
 refine IC (d:=some 60) (z:=6) (m:=A.length+1) (by kernel_rfl) rfl rfl (by omega) hc rfl ?_
 repeat' (first|with_reducible (first|refine ab ?_ ?_|exact True.intro|refine DQ ?_|fail)|((with_reducible apply bQ (n:=14)))|with_reducible (refine ay ?_)|refine RQ ?_|fail)
 all_goals first|omega|skip
 refine Stop.mk ?_;refine bC (bX ?_);refine eE rfl ?_ ?_
 ·repeat' (first|exact True.intro|apply And.intro|omega)
 refine LC (B:= .bF 6 gC fw o0 fW [r]) (B2:= .elo 6 gC fw o0 fW A ((cap-A.length)*6)) rfl Tryz.func183 (by kernel_rfl) (by kernel_rfl) (by kernel_rfl) (e:=76) (tS:=71) (tR:=4) (size:=6) (by kernel_rfl) (by kernel_rfl) (by kernel_rfl) rfl rfl rfl rfl rfl (ji _ _) (by decide) ?_ ?_
 ·rw[yW jG]
  omega
 repeat' (first|with_reducible (first|refine ab ?_ ?_|exact True.intro|refine DQ ?_|fail)|((with_reducible apply bQ (n:=15)))|with_reducible (refine ay ?_)|((with_reducible apply av);refine aq rfl ?_ ?_;all_goals (intro hbq;(try simp only[bq] at hbq);(try (exfalso;omega))))|refine RQ ?_|fail)
 all_goals first|omega|skip
 refine Stop.mk ?_;refine CQ (tZ ?_);refine eE rfl ?_ ?_
 ·repeat' (first|exact True.intro|apply And.intro|omega)
 have hd:(A.drop i).length=A.length-i:=List.length_drop;refine td (z:=6) (B2:= .elo 6 gC fw o0 fW A ((cap-A.length)*6)) (i+1) (A.drop i) ((cap-(A.length+1))*6) (by kernel_rfl) (by kernel_rfl) rfl (by omega) rfl rfl rfl (fun _=>rfl) (fun _=>rfl) (by omega) (by omega) (by omega) (by omega) (by rw[yW jG];omega) (EX (z:=6) jG A _ i (by omega) (by omega)) ?_;simp only[List.set_cons_zero];refine yq (by kernel_rfl) ?_;obtain ⟨B,hB⟩: ∃ B,B=A.take (i+1)++A.drop i++A.drop (i+1+(A.drop i).length):=⟨_,rfl⟩;rw[← hB];have hB0:A.drop (i+1+(A.drop i).length)=[]:=List.drop_eq_nil_of_le (by omega);rw[hB0,List.append_nil] at hB
 have hB1:B.length=A.length+1:=by rw[hB,List.length_append,List.length_take,hd];omega
 have hB2:B.take i=A.take i:=by
  rw[hB,List.take_append_of_le_length (by rw[List.length_take];omega),List.take_take,Nat.min_eq_left (by omega)]
 have hB3:B.drop (i+1)=A.drop i:=by
  rw[hB,List.drop_append_of_le_length (by rw[List.length_take];omega),List.drop_eq_nil_of_le (by rw[List.length_take];omega),List.nil_append]
 clear hB hB0
 repeat' (first|with_reducible (first|refine DQ ?_|fail)|((with_reducible apply bQ (n:=16)))|with_reducible (refine ay ?_))
 all_goals first|omega|skip
 refine Stop.mk ?_;refine bC (bX ?_);refine eE rfl ?_ ?_
 ·repeat' (first|exact True.intro|apply And.intro|omega)
 refine td (z:=6) (B2:= .bF 6 gC fw o0 fW [r]) i [r] ((cap-(A.length+1))*6) (by kernel_rfl) (by kernel_rfl) rfl (by omega) rfl rfl rfl (fun _=>rfl) (fun _=>rfl) (by omega) (by show 1=_;omega) (by omega) (by show (i+1-_)*6+_=_;omega) (by show 0+1*6<=6;omega) rfl ?_;simp only[List.set_cons_zero];rw[hB2,show B.drop (i+[r].length)=A.drop i from hB3]
 repeat' (first|with_reducible (first|refine ab ?_ ?_|exact True.intro|refine DQ ?_|fail)|with_reducible (refine ay ?_)|refine RQ ?_|fail)
 exact yu rfl rfl (.elo rfl (.bF rfl (.nil _)))
theorem Dt (A:List hW) (r:hW) (i cap:Nat) (hA:A.length<=1000) (hi:i<=A.length) (hc:cap=A.length):
  Lt Tryz.prog 142 [.c (.c (.arr 0 0 A.length cap)),vI i,.c (.c (.arr 1 0 1 1))] [Ac A ((cap-A.length)*6),Ic [r]] (fun c:Nat=>A.length+1<=c) (fun c=> .c (.c (.arr 2 0 (A.length+1) c))) (fun c=>[Ac A ((cap-A.length)*6),Ic [r],Ac (A.take i++[r]++A.drop i) ((c-(A.length+1))*6)]):=by
 by_cases hin:i=A.length
 ·subst hin
  rw[List.take_length,List.drop_length,List.append_nil];refine ub aA Tryz.func142 rfl (by kernel_rfl) (Nat.le_of_ble_eq_true (by kernel_rfl)) (by kernel_rfl) (fun x hx=>⟨rfl,rfl,nb rfl,rfl⟩) rfl ?_;simp only[cu,Nat.zero_add,Nat.reduceAdd]
  repeat' (first|with_reducible (first|refine ab ?_ ?_|exact True.intro|refine DQ ?_|fail)|((with_reducible apply bQ (n:=1)))|with_reducible (refine ay ?_)|refine RQ ?_|fail)
  all_goals first|omega|skip
  refine Stop.mk ?_;refine bC (bX ?_);refine uc rfl ?_ ?_
  ·repeat' (first|exact True.intro|apply And.intro)
  refine ID (d:=12) (z:=6) (by kernel_rfl) rfl rfl (by omega) (by omega) (by omega) ?_;rintro o'-
  repeat' (first|with_reducible (first|refine ab ?_ ?_|exact True.intro|refine DQ ?_|fail)|((with_reducible apply bQ (n:=7)))|with_reducible (refine ay ?_)|((with_reducible apply av);refine aq rfl ?_ ?_;all_goals (intro hbq;(try simp only[bq] at hbq);(try (exfalso;omega))))|refine RQ ?_|fail)
  all_goals first|omega|skip
  refine Stop.mk ?_;refine bC (bX ?_);refine eE rfl ?_ ?_
  ·simp
  refine Oo (z:=6) (by_:=48) (zs:=(gC fW).map aa.f) (by kernel_rfl) (by kernel_rfl) rfl rfl rfl rfl (fun _=>rfl) (fun _=>rfl) rfl rfl (by omega) (by omega) (by show (A.length+1)*48<=_;omega) ?_;intro cap' hcap'
  repeat' (first|with_reducible (first|refine ab ?_ ?_|exact True.intro|refine DQ ?_|fail)|refine RQ ?_|fail)
  exact gJ rfl cap' hcap' rfl (.elo rfl (.bF rfl (.elo rfl (.nil _))))
 have hin2:i<A.length:=by omega
 refine ub aA Tryz.func142 rfl (by kernel_rfl) (Nat.le_of_ble_eq_true (by kernel_rfl)) (by kernel_rfl) (fun x hx=>⟨rfl,rfl,nb rfl,rfl⟩) rfl ?_;simp only[cu,Nat.zero_add,Nat.reduceAdd]
 repeat' (first|with_reducible (first|refine ab ?_ ?_|exact True.intro|refine DQ ?_|fail)|((with_reducible apply bQ (n:=8)))|with_reducible (refine ay ?_)|((with_reducible apply av);refine aq rfl ?_ ?_;all_goals (intro hbq;(try simp only[bq] at hbq);(try (exfalso;omega))))|refine RQ ?_|omega)
 all_goals first|omega|skip
 refine Stop.mk ?_;refine bC (bX ?_);refine eE rfl ?_ ?_
 ·refine ⟨⟨⟨trivial,trivial⟩,?_,?_⟩,trivial⟩<;>omega
 refine Ix (te:=76) (by kernel_rfl) rfl ?_
 repeat' (first|with_reducible (first|refine ab ?_ ?_|exact True.intro|refine DQ ?_|fail)|((with_reducible apply bQ (n:=9)))|with_reducible (refine ay ?_)|((with_reducible apply av);refine aq rfl ?_ ?_;all_goals (intro hbq;(try simp only[bq] at hbq);(try (exfalso;omega))))|refine RQ ?_|fail)
 all_goals first|omega|skip
 refine Stop.mk ?_;refine bC (bX ?_);refine eE rfl ?_ ?_
 ·repeat' (first|exact True.intro|apply And.intro|omega)
 refine LF (z:=6) (by_:=48) (zs:=(gC fW).map aa.f) (k:=A.length+1-i) (kn:= .i64) (by kernel_rfl) (by kernel_rfl) rfl rfl (by omega) rfl (fun _=>rfl) (fun _=>rfl) (by omega) (by omega) (by omega) (by omega) (by omega) ?_;intro cap' hcap';have hl:i+(A.length+1-i)=A.length+1:=by omega
 simp only[List.length_cons,List.length_nil,Nat.zero_add,Nat.reduceAdd,Int.toNat_natCast,List.cons_append,List.nil_append,hl] at hcap'⊢
 repeat' (first|with_reducible (first|refine ab ?_ ?_|exact True.intro|refine DQ ?_|fail)|((with_reducible apply bQ (n:=10)))|with_reducible (refine ay ?_)|refine RQ ?_|fail)
 all_goals first|omega|skip
 refine Stop.mk ?_;refine bC (bX ?_);refine eE rfl ?_ ?_
 ·repeat' (first|exact True.intro|apply And.intro|omega)
 have ht:(A.take i).length=i:=by rw[List.length_take];omega
 have hd:(A.drop i).length=A.length-i:=List.length_drop;refine td (z:=6) (B2:= .bF 6 gC fw o0 fW [r]) i [r] ((cap'-(i+1))*6) (by kernel_rfl) (by kernel_rfl) rfl (by omega) rfl rfl rfl (fun _=>rfl) (fun _=>rfl) (by omega) (by show 1=_;omega) (by omega) (by show (i+1-_)*6+_=_;omega) (by show 0+1*6<=6;omega) rfl ?_;simp only[List.set_cons_zero,List.set_cons_succ];have hq:(A.take i).take i++[r]++(A.take i).drop (i+[r].length)=A.take i++[r]:=by
  rw[List.take_take,Nat.min_self,List.drop_eq_nil_of_le (by rw[ht];exact Nat.le_add_right _ _),List.append_nil]
 rw[hq]
 repeat' (first|with_reducible (first|refine DQ ?_|fail)|((with_reducible apply bQ (n:=11)))|with_reducible (refine ay ?_)|refine RQ ?_|fail)
 all_goals first|omega|skip
 refine Stop.mk ?_;refine CQ (tZ ?_);refine eE rfl ?_ ?_
 ·repeat' (first|exact True.intro|apply And.intro|omega)
 have ht2:(A.take i++[r]).length=i+1:=by rw[List.length_append,ht];rfl
 refine td (z:=6) (B2:= .elo 6 gC fw o0 fW A ((cap-A.length)*6)) (i+1) (A.drop i) ((cap'-(A.length+1))*6) (by kernel_rfl) (by kernel_rfl) rfl (by omega) rfl rfl rfl (fun _=>rfl) (fun _=>rfl) (by omega) (by omega) (by omega) (by omega) (by rw[yW jG];omega) (EX (z:=6) jG A _ i (by omega) (by omega)) ?_;simp only[List.set_cons_zero,List.set_cons_succ];have hq2: ∀ T:List hW,T.length=i+1->T.take (i+1)++A.drop i++T.drop (i+1+(A.drop i).length)=T++A.drop i:=fun T hT=>by
  have e1:T.take (i+1)=T:=List.take_of_length_le (by omega);have e2:T.drop (i+1+(A.drop i).length)=[]:=List.drop_eq_nil_of_le (by omega);rw[e1,e2,List.append_nil]
 rw[hq2 _ ht2];refine yq (by kernel_rfl) ?_
 repeat' (first|with_reducible (first|refine ab ?_ ?_|exact True.intro|refine DQ ?_|fail)|with_reducible (refine ay ?_)|refine RQ ?_|fail)
 exact gJ rfl cap' hcap' rfl (.elo rfl (.bF rfl (.elo rfl (.nil _))))
theorem Bh (a:Int):cd Tryz.prog 218 [vI a] [] (vB false) []:=by
 refine PQ Tryz.func218 ?_;simp only[cu,Nat.zero_add,Nat.reduceAdd]
 repeat' (first|with_reducible (first|refine ab ?_ ?_|exact True.intro)|refine RQ ?_|fail)
 all_goals first|rfl|(simp;rfl)
def gN (a b:Int):Int:=if a<b then -1 else if b<a then 1 else 0
theorem lI (a b:Int):cd Tryz.prog 182 [vI a,vI b] [] (vI (gN a b)) []:=by
 have h1:=Bh a;have h2:=Bh b;unfold gN;refine PQ Tryz.func182 ?_;simp only[cu,Nat.zero_add,Nat.reduceAdd]
 repeat' (first|with_reducible (first|refine ab ?_ ?_|exact True.intro|refine DQ ?_|fail)|((with_reducible apply aC);first|refine an (h1) rfl ?_|refine an (h2) rfl ?_)|((with_reducible apply bH);intro hbq;(try simp only[bq] at hbq);(try (exfalso;omega)))|refine RQ ?_|fail)
 ·rw[if_pos hbq];rfl
 ·rename_i e
  rw[if_neg e,if_pos hbq];rfl
 ·rename_i e
  rw[if_neg e,if_neg hbq];rfl
def Px (l:List Int):Int:=(l.find? fun v=> !decide (v=0)).getD 0
theorem Qm (l:List Int) (hl:l.length<=9223372036854775807):cd Tryz.prog 181 [.c (fN l)] [] (vI (Px l)) []:=by
 refine PQ Tryz.func181 ?_;simp only[cu,Nat.zero_add,Nat.reduceAdd]
 repeat' (first|with_reducible (first|refine ab ?_ ?_|exact True.intro)|refine RQ ?_|fail)
 refine aH (fun i:Nat=>SS [sI 3 0,sC 6 (fN l),sI 7 l.length,sI 8 i] []) (fun i=>i<=l.length/\ ∀ j,j<i->(!decide (l.getD j 0=0))=false) (fun i=>l.length-i) 0 ?_ ⟨by omega,fun j hj=>by omega⟩ ?_
 ·
  refine WQ ?_ ?_<;>repeat' (first|with_reducible (first|refine KQ ?_|refine ab ?_ ?_|exact True.intro)|refine ax rfl ?_ ?_|exact (rfl:known _=_)|omega)
 rintro i ⟨hi,hno⟩
 repeat' (first|with_reducible (first|exact VQ|refine ab ?_ ?_|exact True.intro|refine DQ ?_|assumption)|((with_reducible apply bH);intro hbq;(try simp only[bq] at hbq);(try (exfalso;omega)))|refine RQ ?_|omega)
 ·have hf:=j7 (p:=fun v:Int=> !decide (v=0)) (d:=0) (l:=l) (i:=i) (by omega) (by simpa using hbq) hno
  unfold Px;rw[hf];rfl
 ·
  refine az (i+1) ?_ (⟨by omega,bR hno (by have:l.getD i 0=0:=hbq;rw[this];rfl)⟩) (by (try dsimp only);omega);refine WQ ?_ ?_<;>repeat' (first|with_reducible (first|refine KQ ?_|refine ab ?_ ?_|exact True.intro)|refine ax rfl ?_ ?_|exact (rfl:known _=_)|omega)
 ·have hf:=pW (p:=fun v:Int=> !decide (v=0)) (d:=0) (l:=l) (fun j hj=>hno j (by omega))
  unfold Px;rw[hf];rfl
theorem oP (a b:hW):cd Tryz.prog 141 [.agg (fw a),.agg (fw b)] [] (vI (Px [gN a.ex b.ex,gN a.tm b.tm,gN a.tr b.tr,gN a.du b.du])) []:=by
 have h1:=lI a.ex b.ex;have h2:=lI a.tm b.tm;have h3:=lI a.tr b.tr;have h4:=lI a.du b.du;have h5:=Qm [gN a.ex b.ex,gN a.tm b.tm,gN a.tr b.tr,gN a.du b.du] (by show (4:Nat)<=_;decide);have h6:cd Tryz.prog 181 [.c (.c (.f (.row [fI (gN a.ex b.ex),fI (gN a.tm b.tm),fI (gN a.tr b.tr),fI (gN a.du b.du)] 4)))] [] (vI (Px [gN a.ex b.ex,gN a.tm b.tm,gN a.tr b.tr,gN a.du b.du])) []:=h5;refine PQ Tryz.func141 ?_;simp only[cu,Nat.zero_add,Nat.reduceAdd]
 repeat' (first|with_reducible (first|exact BQ|refine ab ?_ ?_|exact True.intro|refine DQ ?_|fail)|((with_reducible apply aC);first|refine an (h1) rfl ?_|refine an (h2) rfl ?_|refine an (h3) rfl ?_|refine an (h4) rfl ?_|refine an (h6) rfl ?_)|refine RQ ?_)
 all_goals rfl
theorem uE (a b:hW):decide (Px [gN a.ex b.ex,gN a.tm b.tm,gN a.tr b.tr,gN a.du b.du]<0)=Dg a b:=by
 have key: ∀ x y:Int,(gN x y=0↔x=y)/\(gN x y<0↔x<y):=fun x y=>by unfold gN;split<;>(try split)<;>omega
 have k1:=key a.ex b.ex;have k2:=key a.tm b.tm;have k3:=key a.tr b.tr;have k4:=key a.du b.du;unfold Px Dg;generalize gN a.ex b.ex=p at*
 generalize gN a.tm b.tm=q at*;generalize gN a.tr b.tr=r at*;generalize gN a.du b.du=s at*;by_cases e1:p=0
 ·by_cases e2:q=0
  ·by_cases e3:r=0
   ·by_cases e4:s=0
    ·simp[List.find?,k1.1.1 e1,k2.1.1 e2,k3.1.1 e3,k4.1.1 e4,e1,e2,e3,e4]
    ·have n4: ¬ a.du=b.du:=fun h=>e4 (k4.1.2 h)
     simp[List.find?,k1.1.1 e1,k2.1.1 e2,k3.1.1 e3,n4,e1,e2,e3,e4,k4.2]
   ·have n3: ¬ a.tr=b.tr:=fun h=>e3 (k3.1.2 h)
    simp[List.find?,k1.1.1 e1,k2.1.1 e2,n3,e1,e2,e3,k3.2]
  ·have n2: ¬ a.tm=b.tm:=fun h=>e2 (k2.1.2 h)
   simp[List.find?,k1.1.1 e1,n2,e1,e2,k2.2]
 ·have n1: ¬ a.ex=b.ex:=fun h=>e1 (k1.1.2 h)
  simp[List.find?,n1,e1,k1.2]
theorem L4 (d:fZ):cd Tryz.prog 58 [.agg (ox d)] [] (.cC [.agg (fw ⟨d.dep,d.fd,0,0,d.fst,0⟩),.c (xB (!d.gone))]) []:=by
 refine PQ Tryz.func58 ?_;simp only[cu,Nat.zero_add,Nat.reduceAdd]
 repeat' (first|with_reducible (first|exact BQ|refine ab ?_ ?_|exact True.intro)|refine RQ ?_)
 all_goals rfl
theorem LV (d:fZ) (h: -9223372036854775808<=d.dep+d.run/\d.dep+d.run<=9223372036854775807):cd Tryz.prog 59 [.agg (ox d)] [] (.cC [.agg (fw ⟨d.dep+d.run,d.fa,0,0,d.lst,0⟩),.c (xB (!d.there_))]) []:=by
 refine PQ Tryz.func59 ?_;simp only[cu,Nat.zero_add,Nat.reduceAdd]
 repeat' (first|with_reducible (first|exact BQ|refine ab ?_ ?_|exact True.intro)|refine RQ ?_|omega)
 all_goals first|omega|rfl
theorem insert_nil (r:hW):
  Lt Tryz.prog 142 [.c (.c (.f .nils)),vI 0,.c (.c (.arr 0 0 1 1))] [Ic [r]] (fun c:Nat=>1<=c) (fun c=> .c (.c (.arr 1 0 1 c))) (fun c=>[Ic [r],Ac [r] ((c-1)*6)]):=by
 refine ub aA Tryz.func142 rfl (by kernel_rfl) (Nat.le_of_ble_eq_true (by kernel_rfl)) (by kernel_rfl) (fun x hx=>⟨rfl,rfl,nb rfl,rfl⟩) rfl ?_;simp only[cu,Nat.zero_add,Nat.reduceAdd]
 repeat' (first|with_reducible (first|refine ab ?_ ?_|exact True.intro|refine DQ ?_|fail)|with_reducible (refine ay ?_)|refine RQ ?_|fail)
 refine IE (z:=6) (by kernel_rfl) rfl (fun y e=>by injection e with e;subst e;rfl) (fun y e=>by cases e) ?_
 repeat' (first|with_reducible (first|refine ab ?_ ?_|exact True.intro|refine DQ ?_|fail)|((with_reducible apply bQ (n:=7)))|with_reducible (refine ay ?_)|((with_reducible apply av);refine aq rfl ?_ ?_;all_goals (intro hbq;(try simp only[bq] at hbq);(try (exfalso;omega))))|refine RQ ?_|fail)
 all_goals first|omega|skip
 refine Stop.mk ?_;refine bC (bX ?_);refine eE rfl ?_ ?_
 ·simp
 refine LD (z:=6) (by_:=48) (zs:=(gC fW).map aa.f) (by kernel_rfl) (by kernel_rfl) rfl rfl rfl (fun _=>rfl) (fun _=>rfl) rfl (by omega) (by omega) (by omega) ?_;intro cap' hcap'
 repeat' (first|with_reducible (first|refine ab ?_ ?_|exact True.intro|refine DQ ?_|fail)|refine RQ ?_|fail)
 exact gJ rfl cap' hcap' rfl (.bF rfl (.elo rfl (.nil _)))
theorem rV (r:hW):
  Lt Tryz.prog 95 [.c (.c (.f .nils)),.agg (fw r)] [] (fun c:Nat=>1<=c) (fun c=> .c (.c (.arr 2 0 1 c))) (fun c=>[some (.cells (fw r)),Ic [r],Ac [r] ((c-1)*6)]):=by
 have hI:=insert_nil r;have hC:=oP r (([]:List hW).getD ((0:Int)-1).toNat fW);refine ub aA Tryz.func95 rfl (by kernel_rfl) (Nat.le_of_ble_eq_true (by kernel_rfl)) (by kernel_rfl) (fun x hx=>⟨rfl,rfl,nb rfl,rfl⟩) rfl ?_;simp only[cu,Nat.zero_add,Nat.reduceAdd]
 repeat' (first|with_reducible (first|refine ab ?_ ?_|exact True.intro|refine DQ ?_|fail)|with_reducible (first|refine ay ?_|refine aD ?_)|refine RQ ?_|fail)
 refine aH (fun _:Unit=>SS [sC 0 (.c (.f .nils)),sC 3 (pB 0),sI 5 0] [some (.cells (fw r))]) (fun _=>True) (fun _=>0) () ?_ trivial ?_
 ·
  refine WQ ?_ ?_<;>repeat' (first|with_reducible (first|refine KQ ?_|refine ab ?_ ?_|exact True.intro)|refine ax rfl ?_ ?_|refine cg.cons ?_ ?_)
 rintro- -
 repeat' (first|with_reducible (first|refine ab ?_ ?_|exact True.intro|assumption)|with_reducible (refine ay ?_)|refine RQ ?_|(intro (hgq:(_:Bool)=true);(try simp only[bq] at hgq))|((with_reducible apply cH);simp only[bq])|omega)
 refine LA 12 (.g (decide ((0:Int)<0)) (.c (rD []))) rfl ?_
 repeat' (first|with_reducible (first|exact BQ|exact VQ|refine ab ?_ ?_|exact True.intro|refine DQ ?_|assumption)|((with_reducible apply aZ);refine aX ((fun _=>hC)) rfl ?_ ?_)|((with_reducible apply bQ (n:=4)))|with_reducible (refine ay ?_)|((with_reducible apply av);refine aq rfl ?_ ?_;all_goals (intro hbq;(try simp only[bq] at hbq);(try (exfalso;omega))))|refine RQ ?_|(intro (hgq:(_:Bool)=true);(try simp only[bq] at hgq))|((with_reducible apply cH);simp only[bq])|omega)
 all_goals first|omega|skip
 refine Stop.mk ?_;refine bC (bX ?_);refine uc rfl ?_ ?_
 ·repeat' (first|exact True.intro|apply And.intro)
 refine Iv (z:=6) (by_:=48) (zs:=(gC fW).map aa.f) (F:=gC) (V:=fw) o0 fW r (by kernel_rfl) rfl rfl rfl rfl ?_;refine Iw [1] hI rfl rfl rfl rfl rfl rfl rfl rfl rfl ?_;intro c hc;refine ⟨_,_,_,_,rfl,rfl,rfl,rfl,rfl,?_⟩
 repeat' (first|with_reducible (first|refine ab ?_ ?_|exact True.intro|refine DQ ?_|fail)|refine RQ ?_|fail)
 exact gJ rfl c hc rfl (.cells (.cons rfl (.cons rfl (.cons rfl (.cons rfl (.cons rfl (.cons rfl .nil)))))) (.bF rfl (.elo rfl (.nil _))))
theorem Fh (r:hW) (A:List hW):A.take (mI r A A.length)++[r]++A.drop (mI r A A.length)=oW r A:=rfl
theorem yF (A:List hW) (r:hW) (cap:Nat) (hA:A.length<=1000) (hc:A.length+1<=cap):
  cd Tryz.prog 95 [.c (.c (.arr 0 0 A.length cap)),.agg (fw r)] [Ac A ((cap-A.length)*6)] (.c (.c (.arr 0 0 (A.length+1) cap))) [Ac (oW r A) ((cap-(A.length+1))*6),some (.cells (fw r)),Ic [r]]:=by
 have hI:=Be A r (mI r A A.length) cap hA (zi _ _ _) hc;rw[Fh] at hI
 refine Iz aA Tryz.func95 rfl (by kernel_rfl) (Nat.le_of_ble_eq_true (by kernel_rfl)) (by kernel_rfl) rfl rfl (nb rfl) rfl rfl ?_;simp only[cu,Nat.zero_add,Nat.reduceAdd]
 repeat' (first|with_reducible (first|refine ab ?_ ?_|exact True.intro|refine DQ ?_|fail)|with_reducible (first|refine ay ?_|refine aD ?_)|refine RQ ?_|fail)
 refine aH (fun i:Nat=>SS [sC 0 (.c (.arr 0 0 A.length cap)),sC 3 (pB 1),sI 5 i] [Ac A ((cap-A.length)*6),some (.cells (fw r))]) (fun i=>i<=A.length/\mI r A i=mI r A A.length) (fun i=>i) A.length ?_ ⟨Nat.le_refl _,rfl⟩ ?_
 ·
  refine WQ ?_ ?_<;>repeat' (first|with_reducible (first|refine KQ ?_|refine ab ?_ ?_|exact True.intro)|refine ax rfl ?_ ?_|refine cg.cons ?_ ?_|with_reducible rfl)
 rintro i ⟨hi,hii⟩;have hC:=oP r (A.getD ((i:Int)-1).toNat fW);have hE:=uE r (A.getD ((i:Int)-1).toNat fW)
 repeat' (first|with_reducible (first|refine ab ?_ ?_|exact True.intro|refine DQ ?_|assumption)|((with_reducible apply aZ);refine aX ((fun _=>hC)) rfl ?_ ?_)|((with_reducible apply bQ (n:=4)))|with_reducible (first|refine ay ?_|refine aD ?_)|((with_reducible apply av);refine aq rfl ?_ ?_;all_goals (intro hbq;(try simp only[bq] at hbq);(try (exfalso;omega))))|refine RQ ?_|(intro (hgq:(_:Bool)=true);(try simp only[bq] at hgq))|((with_reducible apply aL);exact fun _=>⟨rfl,rfl⟩)|((with_reducible apply bh);kernel_rfl)|((with_reducible apply cH);simp only[bq])|omega)
 ·have hb2:Dg r (A.getD (i-1) fW)=true:=by
   rw[show (i-1:Nat)=((i:Int)-1).toNat by omega,← hE];exact decide_eq_true hbq.2
  refine az (i-1) ?_ (⟨by omega,by rw[← hii];exact (Bc (by omega) hb2).symm⟩) (by (try dsimp only);omega);refine WQ ?_ ?_<;>repeat' (first|with_reducible (first|refine KQ ?_|refine ab ?_ ?_|exact True.intro)|refine ax rfl ?_ ?_|refine cg.cons ?_ ?_|exact (rfl:known _=_)|with_reducible rfl|omega)
 have hfx:mI r A i=i:=Bd fun h=>by
  have h2:=h.2;rw[show (i-1:Nat)=((i:Int)-1).toNat by omega,← hE] at h2
  have h3:=of_decide_eq_true h2;rcases hbq with h4|h4
  ·exact h4 (by omega)
  ·exact h4 h3
 rw[← hii,hfx] at hI;refine Stop.mk ?_;refine bC (bX ?_);refine uc rfl ?_ ?_
 ·repeat' (first|exact True.intro|apply And.intro)
 refine Iv (z:=6) (by_:=48) (zs:=(gC fW).map aa.f) (F:=gC) (V:=fw) o0 fW r (by kernel_rfl) rfl rfl rfl rfl ?_
 repeat' (first|with_reducible (first|refine ab ?_ ?_|exact True.intro|refine DQ ?_|fail)|((with_reducible apply aC);refine iq [0,2] (hI) rfl rfl rfl rfl rfl rfl rfl rfl rfl rfl rfl rfl rfl ?_)|refine RQ ?_|fail)
 exact yu rfl rfl (.elo rfl (.cells (.cons rfl (.cons rfl (.cons rfl (.cons rfl (.cons rfl (.cons rfl .nil)))))) (.bF rfl (.nil _))))
theorem AB (A:List hW) (r:hW) (cap:Nat) (hA:A.length<=1000) (hc:cap=A.length):
  Lt Tryz.prog 95 [.c (.c (.arr 0 0 A.length cap)),.agg (fw r)] [Ac A ((cap-A.length)*6)] (fun c:Nat=>A.length+1<=c) (fun c=> .c (.c (.arr 3 0 (A.length+1) c))) (fun c=>[Ac A ((cap-A.length)*6),some (.cells (fw r)),Ic [r],Ac (oW r A) ((c-(A.length+1))*6)]):=by
 have hI:=Dt A r (mI r A A.length) cap hA (zi _ _ _) hc;rw[Fh] at hI
 refine ub aA Tryz.func95 rfl (by kernel_rfl) (Nat.le_of_ble_eq_true (by kernel_rfl)) (by kernel_rfl) (fun x hx=>⟨rfl,rfl,nb rfl,rfl⟩) rfl ?_;simp only[cu,Nat.zero_add,Nat.reduceAdd]
 repeat' (first|with_reducible (first|refine ab ?_ ?_|exact True.intro|refine DQ ?_|fail)|with_reducible (first|refine ay ?_|refine aD ?_)|refine RQ ?_|fail)
 refine aH (fun i:Nat=>SS [sC 0 (.c (.arr 0 0 A.length cap)),sC 3 (pB 1),sI 5 i] [Ac A ((cap-A.length)*6),some (.cells (fw r))]) (fun i=>i<=A.length/\mI r A i=mI r A A.length) (fun i=>i) A.length ?_ ⟨Nat.le_refl _,rfl⟩ ?_
 ·
  refine WQ ?_ ?_<;>repeat' (first|with_reducible (first|refine KQ ?_|refine ab ?_ ?_|exact True.intro)|refine ax rfl ?_ ?_|refine cg.cons ?_ ?_|with_reducible rfl)
 rintro i ⟨hi,hii⟩;have hC:=oP r (A.getD ((i:Int)-1).toNat fW);have hE:=uE r (A.getD ((i:Int)-1).toNat fW)
 repeat' (first|with_reducible (first|refine ab ?_ ?_|exact True.intro|refine DQ ?_|assumption)|((with_reducible apply aZ);refine aX ((fun _=>hC)) rfl ?_ ?_)|((with_reducible apply bQ (n:=4)))|with_reducible (first|refine ay ?_|refine aD ?_)|((with_reducible apply av);refine aq rfl ?_ ?_;all_goals (intro hbq;(try simp only[bq] at hbq);(try (exfalso;omega))))|refine RQ ?_|(intro (hgq:(_:Bool)=true);(try simp only[bq] at hgq))|((with_reducible apply aL);exact fun _=>⟨rfl,rfl⟩)|((with_reducible apply bh);kernel_rfl)|((with_reducible apply cH);simp only[bq])|omega)
 ·have hb2:Dg r (A.getD (i-1) fW)=true:=by
   rw[show (i-1:Nat)=((i:Int)-1).toNat by omega,← hE];exact decide_eq_true hbq.2
  refine az (i-1) ?_ (⟨by omega,by rw[← hii];exact (Bc (by omega) hb2).symm⟩) (by (try dsimp only);omega);refine WQ ?_ ?_<;>repeat' (first|with_reducible (first|refine KQ ?_|refine ab ?_ ?_|exact True.intro)|refine ax rfl ?_ ?_|refine cg.cons ?_ ?_|exact (rfl:known _=_)|with_reducible rfl|omega)
 have hfx:mI r A i=i:=Bd fun h=>by
  have h2:=h.2;rw[show (i-1:Nat)=((i:Int)-1).toNat by omega,← hE] at h2
  have h3:=of_decide_eq_true h2;rcases hbq with h4|h4
  ·exact h4 (by omega)
  ·exact h4 h3
 rw[← hii,hfx] at hI;refine Stop.mk ?_;refine bC (bX ?_);refine uc rfl ?_ ?_
 ·repeat' (first|exact True.intro|apply And.intro)
 refine Iv (z:=6) (by_:=48) (zs:=(gC fW).map aa.f) (F:=gC) (V:=fw) o0 fW r (by kernel_rfl) rfl rfl rfl rfl ?_;refine Ew [0,2] hI rfl rfl rfl rfl rfl rfl rfl rfl ?_;intro c hc;refine ⟨_,_,_,_,rfl,rfl,rfl,rfl,rfl,?_⟩
 repeat' (first|with_reducible (first|refine ab ?_ ?_|exact True.intro|refine DQ ?_|fail)|refine RQ ?_|fail)
 exact gJ rfl c hc rfl (.elo rfl (.cells (.cons rfl (.cons rfl (.cons rfl (.cons rfl (.cons rfl (.cons rfl .nil)))))) (.bF rfl (.elo rfl (.nil _)))))
abbrev vF (f:FuncId):SV:= .c (.c (.f (.v (.func (.func f) #[] #[]))))
theorem C4 {P:Program} {f:FuncId} {args:List ad} {r:ad} {s:St} {a:Act} {w:World} {κ:Nat->BK} {ρ:Nat->Nat} {xs:List Operand} (hO:Ok P f args [] r []) (hl:args.length=xs.length) (hrep: ∀ i (h:i<args.length) (h':i<xs.length) l,bM w κ ρ l args[i] (a.eval xs[i])) (hfl: ∀ x∈args,x.aQ=x) (hok:args.all (ad.ok 0)=true) (hR:Rel s a w κ ρ):
  Calls P f (xs.map a.eval).toArray w fun e w'=> ∃ v κ',e= .returned v/\Rel s a w' κ' ρ/\(∀ l,bM w' κ' ρ l r v)/\r.ok s.H.length=true/\Fr w κ w' κ':=by
 refine (hO.run w (kb κ) ρ _ (by simp[hl]) (fun i hi hi' l=> ?_) (List.all_eq_true.1 hok) ⟨fun b cs h=>by simp at h,fun b cs h=>by simp at h⟩).mono ?_
 ·simp only[List.getElem_map,List.getElem_toArray]
  refine bM.eC (n:=0) (dQ fun g n h=>(jg κ g n).2 h) (fun b hb=>by omega) (List.all_eq_true.1 hok _ (List.getElem_mem hi)) (fun q sz cs len e=> ?_) (hrep i hi (by omega) l);exact absurd e (iO (hfl _ (List.getElem_mem hi)) q sz cs len)
 ·rintro e w' ⟨v,κ',ρ',rfl,hr,hH,hfr,_⟩
  have hsame: ∀ g,g<w.heap.size->κ' g=kb κ g/\w'.heap[g]? =w.heap[g]? :=fun g hg=>by
   obtain ⟨n,hn⟩:=qg κ g;obtain ⟨h1,h2⟩:=hfr.lock g n hg hn;exact ⟨h1.trans hn.symm,h2⟩
  have hrok:r.ok s.H.length=true:=ad.fT (Nat.zero_le _) r hO.rok;have m:Mv (fun _=>False) s.H.length w κ ρ w' (fun g=>if g<w.heap.size then κ g else κ' g) ρ:=
   ⟨hfr.os,hfr.tape,hfr.output,hfr.size,fun _ _=>rfl,fun g hg _=>⟨(hsame g hg).2,if_pos hg⟩,fun _ _ _ _ h=>h.elim,fun _ _ _ h=>h.elim,fun _ _ h=>h.elim⟩
  refine ⟨v,fun g=>if g<w.heap.size then κ g else κ' g,rfl,hR.mv m (fun _ h=>h),fun l=> ?_,hrok,m.fr⟩;refine bM.eC (n:=0) (dQ fun g n h=> ?_) (fun b hb=>by omega) hO.rok (fun q sz cs len e=>absurd e (iO hO.flat q sz cs len)) (hr l);by_cases hg:g<w.heap.size
  ·simp only[hg,if_true]
   rw[(hsame g hg).1] at h;exact (jg κ g n).1 h
  ·simp only[hg,if_false];exact h
def LU (l:SL):Operand->Option SV
 | .func g=>some (vF g)
 |x=>match m6 l x with
  |some v=>hS v
  |none=>none
def EE (l:SL):List Operand->Option (List SV)
 |[]=>some []
 |x::xs=>match LU l x,EE l xs with
  |some v,some r=>some (v::r)
  |_,_=>none
def Oa (l:SL) (H:SH) (y:Operand) (f:FuncId):Prop:= ∀ (a:Act) (w:World) (κ:Nat->BK) (ρ:Nat->Nat),Rel (SS l H) a w κ ρ->a.eval y= .func (.func f) #[] #[]
theorem Js {l:SL} {H:SH} {f:FuncId}:Oa l H (.func f) f:=fun _ _ _ _ _=>rfl
theorem Me {l:SL} {H:SH} {t:Nat} {f:FuncId} (h:lk l t=some (.v (vF f))):Oa l H (.tmp t) f:=fun a w κ ρ hR=>by
 have:=hR.ev (l:= .slot 0) (.tmp t);rw[ka h] at this
 exact (eX.1 this).1
section
variable {P:Program} {ops:Array Oper} {rest:List Oper} {d:Option Tmp} {ty:TypeId} {pos:String} {af:Array Edge} {K:St->Prop} {l:SL} {H:SH}
theorem IT {x:Operand} {u:SV} (h:LU l x=some u) {a:Act} {w:World} {κ:Nat->BK} {ρ:Nat->Nat} (hR:Rel (SS l H) a w κ ρ) (lo:Loc):bM w κ ρ lo u.den (a.eval x):=by
 have key: ∀ {x:Operand},(match m6 l x with|some v=>hS v|none=>none)=some u->bM w κ ρ lo u.den (a.eval x):=fun {x} h=>by
  split at h
  ·rename_i v hv
   have k:=(hR.ev (l:=lo) x).nz;rw[cm hv] at k
   rw[← Dq h];exact k
  ·cases h
 unfold LU at h;split at h
 ·injection h with h
  subst h;exact cy.v _ rfl
 ·exact key h
theorem wP: ∀ (xs:List Operand) (ws:List SV),EE l xs=some ws->ws.length=xs.length/\ ∀ i (h:i<xs.length) (h':i<ws.length),LU l xs[i]=some ws[i]
 |[],ws,h=>by injection h with h;subst h;exact ⟨rfl,fun i h=>by simp at h⟩
 |x::xs,ws,h=>by
  unfold EE at h;split at h
  ·rename_i v r h1 h2
   injection h with h;subst h;obtain ⟨k1,k2⟩:=wP xs r h2;refine ⟨by simp[k1],fun i hi hi'=> ?_⟩;cases i with
   |zero=>exact h1
   |succ i=>exact k2 i (by simpa using hi) (by simpa using hi')
  ·cases h
theorem yt {c:Call} {y:Operand} {f:FuncId} {vs:List SV} {r:SV} {l':SL} (hO:cd P f vs [] r []) (hc:c.callee= .value y) (hy:Oa l H y f) (ha:EE l c.args.toList=some vs) (hfl:vs.all pY=true) (hok:zv 0 vs=true) (hl:(match d with|some d=>some ((d,SE.v r)::l)|none=>some l)=some l')
  (h:WR P ops rest (SS l' H) (.plain K)):WR P ops (⟨d,.call c,ty,pos,af,none⟩::rest) (SS l H) (.plain K):=by
 have e:SS l' H=(SS l H).put d r.den:=by
  split at hl<;>injection hl with hl<;>subst hl<;>rfl
 obtain ⟨a1,a2⟩:=wP _ _ ha;refine kj (au rfl) (fun _:Unit=>SS l' H) (fun _=>by rw[bY,bY];exact Nat.le_refl _) (fun a w κ ρ hR hdt next Q hn=> ?_) (fun _=>h);have hf:=hO.fn;have hrun:(execOp a.eval ⟨d,.call c,ty,pos,af,none⟩).run P w= .ok (.enter f (c.args.toList.map a.eval).toArray) w:=by
  obtain ⟨fn,h1,h2,h3⟩:=hf;have hb: ¬ fn.body=none:=by intro e;rw[e] at h2;cases h2
  have hn: ¬ fn.name= "runtime.NumGoroutine":=by simpa using h3
  have hmap:c.args.map a.eval=(c.args.toList.map a.eval).toArray:=by rw[← Array.toList_map]
  simp only[execOp,resolve,hc,hy a w κ ρ hR,Deferred.ofValue,Sem.run_bind,Sem.run_pure,Result.andThen_ok,invoke,callFunc];simp[program,Sem.run,h1,hn,hb,hmap]
 unfold Oper.wp;rw[hrun];refine (C4 hO (by simp[a1]) (fun i hi hi' lo=> ?_) (fun x hx=> ?_) ?_ hR).mono ?_
 ·simp only[List.getElem_map]
  exact IT (a2 i hi' (by simpa using hi)) hR lo
 ·obtain ⟨v,hv,rfl⟩:=List.mem_map.1 hx
  exact cG (kT (List.all_eq_true.1 hfl _ hv))
 ·exact jO hok
 ·rintro e w' ⟨v,κ',rfl,hR',hr,hrok,hfr⟩
  refine hn () _ w' κ' ρ ?_ hfr (fun _ _=>rfl) (dt _ _ _);rw[e];exact hR'.put hdt (fun t _=>hr _) hrok
end
theorem kY (r:hW) (A:List hW):(oW r A).length=A.length+1:=by
 have:=zi r A A.length;unfold oW;simp only[List.length_append,List.length_take,List.length_drop,List.length_cons,List.length_nil];omega
theorem uH {H:SH} {b:Nat} {B:SB} (h:nth H b=some (some B)):(aR H)[b]? =some (some B.den):=dz h
theorem tq (A:List hW) (cap:Nat) (hc:A.length<=cap):(SB.elo 6 gC fw o0 fW A ((cap-A.length)*6)).den=(A.flatMap gC).map aa.f++List.replicate (cap*6-(A.flatMap gC).length) .any:=by
 simp only[SB.den,aK gC 6 jG A,Nat.sub_mul]
theorem Gn (A:List hW) (r:hW) (h0:A.length=0): ∃ Q,Er Tryz.prog 95 [.c (.f .nils),(SV.agg (fw r)).den] [] Q/\ ∀ r' H',Q r' H'->tO 6 ((oW r A).flatMap gC) (oW r A).length 0 r' H':=by
 have hA:A=[]:=List.length_eq_zero_iff.1 h0;subst hA;have hI:=rV r;refine ⟨_,hI,?_⟩;rintro _ _ ⟨c,hc,rfl,rfl⟩;have hl:(oW r []).length=1:=rfl;refine ⟨⟨2,c,rfl,by rw[hl];exact hc,?_⟩,?_⟩
 ·have:=uH (H:=[some (.cells (fw r)),Ic [r],Ac [r] ((c-1)*6)]) (b:=2) rfl
  rw[this,show c-1=c-[r].length from rfl,tq [r] c hc];rfl
 ·exact da rfl
theorem Gm (A:List hW) (r:hW) (hA:A.length<=1000) (cap:Nat) (hc:A.length<=cap): ∃ Q,Er Tryz.prog 95 [.c (.arr 0 0 A.length cap),(SV.agg (fw r)).den] [some ((A.flatMap gC).map aa.f++List.replicate (cap*6-(A.flatMap gC).length) .any)] Q/\ ∀ r' H',Q r' H'->tO 6 ((oW r A).flatMap gC) (oW r A).length 0 r' H':=by
 rw[← tq A cap hc,kY];by_cases h:A.length+1<=cap
 ·have hI:=yF A r cap hA h
  refine ⟨_,Ok.e hI,?_⟩;rintro _ _ ⟨rfl,rfl⟩;refine ⟨⟨0,cap,rfl,h,?_⟩,da rfl⟩;have:=uH (H:=[Ac (oW r A) ((cap-(A.length+1))*6),some (.cells (fw r)),Ic [r]]) (b:=0) rfl;rw[this,← kY r A,tq _ cap (by rw[kY];exact h)]
 ·have hI:=AB A r cap hA (by omega)
  refine ⟨_,hI,?_⟩;rintro _ _ ⟨c,hc2,rfl,rfl⟩;refine ⟨⟨3,c,rfl,hc2,?_⟩,da rfl⟩;have:=uH (H:=[Ac A ((cap-A.length)*6),some (.cells (fw r)),Ic [r],Ac (oW r A) ((c-(A.length+1))*6)]) (b:=3) rfl;rw[this,← kY r A,tq _ c (by rw[kY];exact hc2)]
end Go.Proofs.YtjkeeocnekggfaaGreat.Av
