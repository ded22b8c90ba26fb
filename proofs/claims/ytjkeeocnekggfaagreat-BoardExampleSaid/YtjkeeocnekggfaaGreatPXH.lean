
import Derived.Test.YtjkeeocnekggfaaGreatPXG
set_option linter.unusedVariables false
set_option linter.unusedSimpArgs false
set_option maxRecDepth 4000
set_option maxHeartbeats 4000000
namespace Go.Proofs.YtjkeeocnekggfaaGreat.Av
def wz (arr:Bool) (d:fZ):hW:=bif arr then ⟨d.dep+d.run,d.fa,0,0,d.lst,0⟩ else ⟨d.dep,d.fd,0,0,d.fst,0⟩
def Tp (arr:Bool) (d:fZ):Bool:=bif arr then !d.there_ else !d.gone
def LW (arr:Bool) (d:fZ) (t k:Nat):hW:=⟨(wz arr d).tm,(wz arr d).ex,t,k,(wz arr d).sc,IntKind.i64.wrap ((wz arr d).ex-(wz arr d).tm)⟩
def vQ (c:dO) (arr:Bool) (stn:Int) (d:fZ) (t k:Nat) (out:List hW):List hW:=
 if Tp arr d=false\/(c.L.secs.getD (wz arr d).sc.toNat cD).stn≠stn then out else oW (LW arr d t k) out
def oA (c:dO) (arr:Bool) (stn:Int) (l:List fZ) (t:Nat) (out:List hW):Nat->List hW
 |0=>out
 |k+1=>vQ c arr stn (l.getD k cq) t k (oA c arr stn l t out k)
def mX (c:dO) (arr:Bool) (stn:Int) (tr:List (List fZ)):Nat->List hW
 |0=>[]
 |t+1=>oA c arr stn (tr.getD t []) t (mX c arr stn tr t) (tr.getD t []).length
theorem KV (c:dO) (arr:Bool) (stn:Int) (d:fZ) (t k:Nat) (out:List hW):(vQ c arr stn d t k out).length<=out.length+1:=by
 unfold vQ;split
 ·omega
 ·rw[kY];exact Nat.le_refl _
theorem wR (c:dO) (arr:Bool) (stn:Int) (l:List fZ) (t:Nat) (out:List hW) (k:Nat):(oA c arr stn l t out k).length<=out.length+k:=by
 induction k with
 |zero=>exact Nat.le_refl _
 |succ k ih=>
  unfold oA;have:=KV c arr stn (l.getD k cq) t k (oA c arr stn l t out k);omega
theorem PJ {c:dO} {b:Int} {d:fZ} (h:RN c b d) (arr:Bool):0<=(wz arr d).sc/\(wz arr d).sc<c.L.secs.length:=by
 cases arr
 ·exact h.fst
 ·exact h.lst
theorem FG (c:dO) (hc:fk c) (x:List Rec) (hx:x.length<=9223372036854775807) (hx2: ∀ r∈x,-9223372036854775808<=r.at_) (at_ stn count:Int) (arr:Bool) (fn:Nat) (hf: ∀ d,RN c 6000000 d->cd Tryz.prog fn [.agg (ox d)] [] (.cC [.agg (fw (wz arr d)),.c (xB (Tp arr d))]) []):
  cd Tryz.prog 57 [gi c,.c (zE x),vI at_,vI stn,vI count,vF fn] [] (.cC [.c (rD (if mE (gW c at_) c.L.sts.length stn count=0 then (mX c arr stn (kB c x at_) (kB c x at_).length).take count.toNat else [])),.c (xI (mE (gW c at_) c.L.sts.length stn count))]) []:=by
 have hP:=vu c hc x hx hx2 at_;unfold gi at hP
 by_cases w1:gW c at_=0
 rotate_right
 ·have he: ∀ n,mE (gW c at_) n stn count=gW c at_:=fun n=>if_pos w1
  rw[he,if_neg w1];unfold gi;refine PQ Tryz.func57 ?_;simp only[cu,Nat.zero_add,Nat.reduceAdd]
  repeat' (first|with_reducible (first|refine ab ?_ ?_|exact True.intro|refine DQ ?_|fail)|((with_reducible apply aC);refine an (hP) rfl ?_)|((with_reducible apply av);refine aq rfl ?_ ?_;all_goals (intro hbq;(try simp only[bq,and_true,true_and,and_false,false_and,or_true,true_or,or_false,false_or,not_true_eq_false,not_false_eq_true,Bool.true_eq_false,Bool.false_eq_true,w1] at hbq);(try (exfalso;omega))))|with_reducible (first|refine ay ?_|refine aD ?_)|refine RQ ?_|fail)
  all_goals rfl
 obtain ⟨h1,h2,h3⟩:=FB w1;have w:=L1 h1;have hI:=NX hc hx2 w1;rw[w1] at hP;rw[w1];generalize kB c x at_=tr at*;have i1:=hI.n10;have i2:=hI.r12;unfold gi;refine PQ Tryz.func57 ?_;simp only[cu,Nat.zero_add,Nat.reduceAdd]
 repeat' (first|with_reducible (first|refine ab ?_ ?_|exact True.intro|refine DQ ?_|assumption)|((with_reducible apply aC);refine an (hP) rfl ?_)|with_reducible (first|refine ay ?_|refine aD ?_)|((with_reducible apply av);refine aq rfl ?_ ?_;all_goals (intro hbq;(try simp only[bq] at hbq);(try (exfalso;omega))))|refine RQ ?_|(intro (hgq:(_:Bool)=true);(try simp only[bq] at hgq))|(intro (hgq:(_:Bool)=false);(try simp only[bq] at hgq))|((with_reducible apply cH);simp only[bq]))
 ·have he:mE 0 c.L.sts.length stn count=6:=by unfold mE;rw[if_neg (by decide),if_pos hbq]
  rw[he];rfl
 ·have he:mE 0 c.L.sts.length stn count=4:=by unfold mE;rw[if_neg (by decide),if_neg (by omega),if_pos hbq]
  rw[he];rfl
 have he:mE 0 c.L.sts.length stn count=0:=by unfold mE;rw[if_neg (by decide),if_neg (by omega),if_neg (by omega)]
 rw[he,if_pos rfl];refine aH (fun t:Nat=>SS [sI 3 stn,sI 4 count,(5,.v (vF fn)),sC 6 (pB 0),sC 16 (Rj (mX c arr stn tr t)),sC 52 (vx tr),sI 53 tr.length,sI 54 t] [some (.cells (lZ c))]) (fun t=>t<=tr.length/\(mX c arr stn tr t).length<=12*t) (fun t=>tr.length-t) 0 ?_ ⟨by omega,by simp[mX]⟩ ?_
 ·
  refine WQ ?_ ?_<;>repeat' (first|with_reducible (first|refine KQ ?_|refine ab ?_ ?_|exact True.intro)|refine ax rfl ?_ ?_|exact aE.ao|exact (rfl:known _=_)|omega)
 rintro t ⟨ht,hol⟩;by_cases htl:t<tr.length
 ·have hrl:=i2 t
  have hdu:=hI.du t
  repeat' (first|with_reducible (first|refine ab ?_ ?_|exact True.intro|refine DQ ?_|assumption)|with_reducible (first|refine ay ?_|refine aD ?_)|((with_reducible apply av);refine aq rfl ?_ ?_;all_goals (intro hbq;(try simp only[bq] at hbq);(try (exfalso;omega))))|refine RQ ?_|((with_reducible apply aL);exact fun _=>⟨rfl,rfl⟩)|omega)
  refine aH (fun k:Nat=>SS [sI 3 stn,sI 4 count,(5,.v (vF fn)),sC 6 (pB 0),sC 16 (Rj (oA c arr stn (tr.getD t []) t (mX c arr stn tr t) k)),sI 17 t,sC 52 (vx tr),sI 53 tr.length,sI 54 t,sC 59 (Ro (tr.getD t [])),sI 60 (tr.getD t []).length,sI 61 k] [some (.cells (lZ c))]) (fun k=>k<=(tr.getD t []).length) (fun k=>(tr.getD t []).length-k) 0 ?_ (by omega) ?_
  ·
   refine WQ ?_ ?_<;>repeat' (first|with_reducible (first|refine KQ ?_|refine ab ?_ ?_|exact True.intro)|refine ax rfl ?_ ?_|exact (rfl:known _=_)|omega)
   all_goals rfl
  intro k hk;by_cases hkl:k<(tr.getD t []).length
  ·have hD:=hdu k htl hkl
   have hF:=hf _ hD;have hS:=PJ hD arr;have hnx:oA c arr stn (tr.getD t []) t (mX c arr stn tr t) (k+1)=vQ c arr stn ((tr.getD t []).getD k cq) t k (oA c arr stn (tr.getD t []) t (mX c arr stn tr t) k):=rfl;have hol2:=wR c arr stn (tr.getD t []) t (mX c arr stn tr t) k;generalize oA c arr stn (tr.getD t []) t (mX c arr stn tr t) k=out at*
   repeat' (first|with_reducible (first|refine ab ?_ ?_|exact True.intro|refine DQ ?_|assumption)|with_reducible (first|refine ay ?_|refine aD ?_)|((with_reducible apply av);refine aq rfl ?_ ?_;all_goals (intro hbq;(try simp only[bq] at hbq);(try (exfalso;omega))))|refine RQ ?_|((with_reducible apply aL);exact fun _=>⟨rfl,rfl⟩)|omega)
   refine yt hF rfl (Me rfl) rfl rfl rfl rfl ?_;have hD0:((tr.getD t []).getD (k:Int).toNat cq)=(tr.getD t []).getD k cq:=rfl;generalize (tr.getD t []).getD k cq=D at*
   repeat' (first|with_reducible (first|exact VQ|refine ab ?_ ?_|exact True.intro|refine DQ ?_|assumption)|((with_reducible apply bQ (n:=17)))|with_reducible (refine ay ?_)|((with_reducible apply av);refine aq rfl ?_ ?_;all_goals (intro hbq;(try simp only[bq] at hbq);(try (exfalso;omega))))|refine RQ ?_|(intro (hgq:(_:Bool)=true);(try simp only[bq] at hgq))|(intro (hgq:(_:Bool)=false);(try simp only[bq] at hgq))|((with_reducible apply cH);simp only[bq])|omega)
   all_goals first|omega|skip
   ·
    refine az (k+1) ?_ ((by omega)) (by (try dsimp only);omega);refine WQ ?_ ?_<;>repeat' (first|with_reducible (first|refine KQ ?_|refine ab ?_ ?_|exact True.intro)|refine ax rfl ?_ ?_|exact (rfl:known _=_)|omega)
    all_goals (rw[hnx];unfold vQ;rw[if_pos (by simpa using hbq)])
   have hst:vQ c arr stn D t k out=oW (LW arr D t k) out:=by
    unfold vQ;exact if_neg (by simpa using hbq)
   rw[hst] at hnx;refine Stop.mk ?_;refine bC (bX ?_);refine tW (v:= .c (.f (.v (.int .i64 t)))) rfl rfl ?_;refine tW (v:= .c (.f (.v (.int .i64 k)))) rfl rfl ?_;refine pz (k:=1) (b:=2) (off:=0) (off':=1) (by kernel_rfl) rfl rfl ?_;refine eD (n:=1) (b:=2) (off:=1) (by kernel_rfl) rfl rfl rfl rfl ?_;refine pz (k:=0) (b:=2) (off:=0) (off':=0) (by kernel_rfl) rfl rfl ?_;refine eD (n:=1) (b:=2) (off:=0) (by kernel_rfl) rfl rfl rfl rfl ?_;refine jw (k:= .i64) rfl rfl rfl ?_;change WR _ _ _ (SS ((92,.v (.c (xI _)))::(91,.v (.c (xI _)))::(90,.v (.c (.c (.ptr _ _))))::(89,.v (.c (xI _)))::(88,.v (.c (.c (.ptr _ _))))::(87,.v (.c (xI _)))::(86,.v (.c (xI _)))::_) _) (.plain _)
   repeat' (first|with_reducible (first|refine ab ?_ ?_|exact True.intro|refine DQ ?_|fail)|((with_reducible apply bQ (n:=18)))|refine RQ ?_|fail)
   all_goals first|omega|skip
   refine Stop.mk ?_;refine bC (bX ?_);refine QH rfl ?_;refine eE rfl ?_ ?_
   ·trivial
   have hol3:out.length<=1000:=by omega
   refine QI (oW (LW arr D t k) out) (v2:= .agg (fw (LW arr D t k))) rfl rfl (by decide) rfl rfl (fun _=>rfl) rfl jG (rV fW).fn (Gn out _) (Gm out _ hol3) ?_
   repeat' (first|with_reducible (first|refine ab ?_ ?_|exact True.intro|refine DQ ?_|fail)|refine RQ ?_|omega)
   refine az (k+1) ?_ ((by omega)) (by (try dsimp only);omega);refine WQ ?_ ?_<;>repeat' (first|with_reducible (first|refine KQ ?_|refine ab ?_ ?_|exact True.intro)|refine ax rfl ?_ ?_|exact (rfl:known _=_)|omega)
   all_goals exact hnx.symm
  ·have hke:k=(tr.getD t []).length:=by omega
   subst hke;have hol4:=wR c arr stn (tr.getD t []) t (mX c arr stn tr t) (tr.getD t []).length
   repeat' (first|with_reducible (first|refine ab ?_ ?_|exact True.intro|refine DQ ?_|fail)|with_reducible (refine ay ?_)|((with_reducible apply av);refine aq rfl ?_ ?_;all_goals (intro hbq;(try simp only[bq] at hbq);(try (exfalso;omega))))|refine RQ ?_|omega)
   refine az (t+1) ?_ (⟨by omega,by show (oA c arr stn (tr.getD t []) t (mX c arr stn tr t) (tr.getD t []).length).length<=_;omega⟩) (by (try dsimp only);omega);refine WQ ?_ ?_<;>repeat' (first|with_reducible (first|refine KQ ?_|refine ab ?_ ?_|exact True.intro)|refine ax rfl ?_ ?_|exact (rfl:known _=_)|omega)
   all_goals first|rfl|skip
 have hte:t=tr.length:=by omega
 subst hte;refine ay (bC (bX ?_));refine eE rfl ?_ (fV (nG ?_))
 ·trivial
 refine ay (aq rfl ?_ ?_)
 ·intro hbq
  simp only[bq] at hbq;omega
 intro _;refine ua (rI (pw (kL rfl ?_)));refine jR _ (Ot (z:=6) (F:=gC) (V:=fw) (M:=o0) (d:=fW) (ls:=mX c arr stn tr tr.length) 16 rfl rfl (di.refl (Nat.zero_le _))) ?_
 repeat' (first|with_reducible (first|refine ab ?_ ?_|exact True.intro|refine DQ ?_|fail)|with_reducible (refine ay ?_)|refine RQ ?_|(intro _;exact rfl)|omega)
 have hm: ∀ B:List hW,B.take (min count (B.length:Int)).toNat=B.take count.toNat:=fun B=>by
  rcases Int.le_total count B.length with h|h
  ·rw[Int.min_eq_left h]
  ·rw[Int.min_eq_right h,List.take_of_length_le (by omega),List.take_of_length_le (by omega)]
 rw[hm];rfl
theorem wb (c:dO) (hc:fk c) (x:List Rec) (hx:x.length<=9223372036854775807) (hx2: ∀ r∈x,-9223372036854775808<=r.at_) (at_ stn count:Int):
  cd Tryz.prog 25 [gi c,.c (zE x),vI at_,vI stn,vI count] [] (.cC [.c (rD (if mE (gW c at_) c.L.sts.length stn count=0 then (mX c false stn (kB c x at_) (kB c x at_).length).take count.toNat else [])),.c (xI (mE (gW c at_) c.L.sts.length stn count))]) []:=by
 have hR:=FG c hc x hx hx2 at_ stn count false 58 (fun d _=>L4 d);generalize mE (gW c at_) c.L.sts.length stn count=e at*
 unfold gi at hR⊢;refine PQ Tryz.func25 ?_;simp only[cu,Nat.zero_add,Nat.reduceAdd]
 repeat' (first|with_reducible (first|refine ab ?_ ?_|exact True.intro|refine DQ ?_|fail)|with_reducible (refine ay ?_)|refine RQ ?_|fail)
 refine yt hR rfl Js rfl rfl rfl rfl ?_
 repeat' (first|with_reducible (first|refine ab ?_ ?_|exact True.intro|refine DQ ?_|fail)|refine RQ ?_|fail)
 all_goals rfl
theorem mL (c:dO) (hc:fk c) (x:List Rec) (hx:x.length<=9223372036854775807) (hx2: ∀ r∈x,-9223372036854775808<=r.at_) (at_ stn count:Int):
  cd Tryz.prog 26 [gi c,.c (zE x),vI at_,vI stn,vI count] [] (.cC [.c (rD (if mE (gW c at_) c.L.sts.length stn count=0 then (mX c true stn (kB c x at_) (kB c x at_).length).take count.toNat else [])),.c (xI (mE (gW c at_) c.L.sts.length stn count))]) []:=by
 have hR:=FG c hc x hx hx2 at_ stn count true 59 (fun d hd=>LV d (by
  have h1:=hd.dep;have h2:=hd.run;omega))
 generalize mE (gW c at_) c.L.sts.length stn count=e at*;unfold gi at hR⊢;refine PQ Tryz.func26 ?_;simp only[cu,Nat.zero_add,Nat.reduceAdd]
 repeat' (first|with_reducible (first|refine ab ?_ ?_|exact True.intro|refine DQ ?_|fail)|with_reducible (refine ay ?_)|refine RQ ?_|fail)
 refine yt hR rfl Js rfl rfl rfl rfl ?_
 repeat' (first|with_reducible (first|refine ab ?_ ?_|exact True.intro|refine DQ ?_|fail)|refine RQ ?_|fail)
 all_goals rfl
theorem y9:cd Tryz.prog 7 [] [] (vB true) []:=by
 have hE:=sd;have hA:=GA;obtain ⟨_,_,_,_,_,_,q1,q2,_⟩:=uJ;have hx2: ∀ r∈([]:List Rec),-9223372036854775808<=r.at_:=fun r hr=>by cases hr
 have d1:=wb dg iN [] (by decide) hx2 40 0 9;have a1:=mL dg iN [] (by decide) hx2 40 0 9;have a2:=mL dg iN [] (by decide) hx2 40 1 9;have a3:=mL dg iN [] (by decide) hx2 40 0 101;have e1:mE (gW dg 40) dg.L.sts.length 0 9=0:=by rw[m8 40 (by omega)];rfl
 have e2:mE (gW dg 40) dg.L.sts.length 1 9=6:=by rw[m8 40 (by omega)];rfl
 have e3:mE (gW dg 40) dg.L.sts.length 0 101=4:=by rw[m8 40 (by omega)];rfl
 rw[e1,if_pos rfl,y8 40 (by omega)] at d1 a1;rw[e2,if_neg (by decide)] at a2;rw[e3,if_neg (by decide)] at a3;generalize gF dg (iW dg) 0 0=R at*;have f1:dq 40 0 0 ⟨0,100,0,0,1,R,0,0,false,false⟩=⟨0,100,0,0,1,R,100,100+R,false,false⟩:=by
  simp[dq];omega
 rw[f1] at d1 a1;have g1:mX dg false 0 [[⟨0,100,0,0,1,R,100,100+R,false,false⟩]] [[(⟨0,100,0,0,1,R,100,100+R,false,false⟩:fZ)]].length=[]:=by
  show vQ dg false 0 ⟨0,100,0,0,1,R,100,100+R,false,false⟩ 0 0 []=[];unfold vQ;exact if_pos (.inr (by show (-1:Int)≠0;decide))
 have g2:mX dg true 0 [[⟨0,100,0,0,1,R,100,100+R,false,false⟩]] [[(⟨0,100,0,0,1,R,100,100+R,false,false⟩:fZ)]].length=[⟨100+R,100+R,0,0,1,0⟩]:=by
  show vQ dg true 0 ⟨0,100,0,0,1,R,100,100+R,false,false⟩ 0 0 []=_;have hw:IntKind.i64.wrap (100+R-(100+R))=0:=by rw[Int.sub_self];rfl
  unfold vQ;rw[if_neg (by
   rintro (h|h)
   ·cases h
   ·exact h rfl)]
  show [(⟨100+R,100+R,(0:Nat),(0:Nat),1,IntKind.i64.wrap (100+R-(100+R))⟩:hW)]=_;rw[hw];rfl
 rw[g1] at d1;rw[g2] at a1;have s1:=B6 [⟨100+R,100+R,0,0,1,0⟩] (by show (1:Nat)<=_;decide);have s1:cd Tryz.prog 27 [.c (rD [⟨100+R,100+R,0,0,1,0⟩]),.c (.c (.f (.row [fI (100+R),fI (100+R),fI 0,fI 0,fI 1,fI 0] 1)))] [] (vB true) []:=s1;unfold gi at d1 a1 a2 a3;have d1:cd Tryz.prog 25 [.agg (lZ dg),.c (.c (.f (.row [] 0))),vI 40,vI 0,vI 9] [] (.cC [.c (rD []),.c (xI 0)]) []:=d1;have a1:cd Tryz.prog 26 [.agg (lZ dg),.c (.c (.f (.row [] 0))),vI 40,vI 0,vI 9] [] (.cC [.c (rD [⟨100+R,100+R,0,0,1,0⟩]),.c (xI 0)]) []:=a1;have a2:cd Tryz.prog 26 [.agg (lZ dg),.c (.c (.f (.row [] 0))),vI 40,vI 1,vI 9] [] (.cC [.c (rD []),.c (xI 6)]) []:=a2;have a3:cd Tryz.prog 26 [.agg (lZ dg),.c (.c (.f (.row [] 0))),vI 40,vI 0,vI 101] [] (.cC [.c (rD []),.c (xI 4)]) []:=a3;clear e1 e2 e3 f1 g1 g2;generalize [(⟨100+R,100+R,0,0,1,0⟩:hW)]=A1 at*;generalize dg=C at*;refine PQ Tryz.func7 ?_;simp only[cu,Nat.zero_add,Nat.reduceAdd]
 repeat' (first|with_reducible (first|refine ab ?_ ?_|exact True.intro|refine DQ ?_|assumption)|((with_reducible apply aC);first|refine an (hE) rfl ?_|refine an (d1) rfl ?_|refine an (a1) rfl ?_|refine an (a2) rfl ?_|refine an (a3) rfl ?_|refine an (hA) rfl ?_)|((with_reducible apply aZ);refine aX ((fun _=>s1)) rfl ?_ ?_)|with_reducible (refine ay ?_)|refine RQ ?_|(intro (hgq:(_:Bool)=true);(try simp only[bq] at hgq))|((with_reducible apply cH);simp only[bq])|omega)
 all_goals first|rfl|(simp only[decide_true,Bool.and_self,Bool.and_true,Bool.true_and];rfl)
open Go.RowKit
theorem okWide_spot {P:Program} {w:World} {r:Reach} {base:Nat} {t e:TypeId} {v:Value} (ht:P.underlying t=some (.slice e)) (h:Value.okWide P w r base t v) {a:Addr} {len cap:Nat} (hv:v= .slice (some a) len cap):a.spot=none:=by
 subst hv;simp only[Value.okWide,ht,Cell.okWide,Cell.ok] at h;exact h.2.2.2.1
theorem GU {f:FuncId} {args:List ad} (hO:Ok Tryz.prog f args [] (aB true) []) (w:World) (vals:Array Value) (hs:vals.size=args.length) (hr: ∀ i (h:i<args.length) (h':i<vals.size) l,bM w (fun _=> .lock none) id l args[i] vals[i]) (hok: ∀ x∈args,x.ok 0=true):
  Calls Tryz.prog f vals w fun e w'=>e= .returned (.bool true)/\Below w.heap.size w w':=by
 refine (hO.run w (fun _=> .lock none) id vals hs hr hok ⟨fun b cs h=>by simp at h,fun b cs h=>by simp at h⟩).mono ?_;rintro e w' ⟨v,κ',ρ',rfl,hv,_,hfr,_⟩;have hv:cy w' κ' (.v (.bool true)) v:=hv (.slot 0);rw[(eX.1 hv).1];exact ⟨rfl,hfr.os,hfr.tape,hfr.output,hfr.size,fun k hk=>(hfr.lock k none hk rfl).2⟩
end Go.Proofs.YtjkeeocnekggfaaGreat.Av
namespace Go.Proofs.YtjkeeocnekggfaaGreat
open Go.RowKit
theorem W.BoardExample (w:World):Calls Tryz.prog 7 #[] w fun e w'=>e= .returned (.bool true)/\Below w.heap.size w w':=
 Av.GU Av.y9 w _ rfl (fun i hi hi' l=>absurd hi (by simp)) (fun x hx=>by simp at hx)
end Go.Proofs.YtjkeeocnekggfaaGreat
