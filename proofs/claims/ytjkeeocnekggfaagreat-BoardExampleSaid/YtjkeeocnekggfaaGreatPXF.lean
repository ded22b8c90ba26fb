
import Derived.Test.YtjkeeocnekggfaaGreatPXE
set_option linter.unusedVariables false
set_option linter.unusedSimpArgs false
set_option maxRecDepth 4000
set_option maxHeartbeats 4000000
namespace Go.Proofs.YtjkeeocnekggfaaGreat.Av
abbrev i7 (L:bJ) (ts:List bD) (k:Nat):Nat:=(L.secs.getD (ts.getD k bd).sec.toNat cD).len.toNat
def aT (L:bJ) (ts:List bD):Nat->Nat
 |0=>0
 |k+1=>aT L ts k+i7 L ts (k+1)
def eY (L:bJ) (r:jV) (l sp ac br:Int):Nat->Int:=wB (dZ L (bN r)) (dL L r).toNat l.toNat sp ac br
structure CK (L:bJ) (r:jV) (l sp ac br:Int):Prop where
 rt:mN L r
 cel:cZ L r=0
 chk:ic l sp ac br=true
 n:((bN r).length:Int)=r.st.length-r.ov
 n2:2<=(bN r).length
 n24:(bN r).length<=24
 sec: ∀ k,k<(bN r).length->0<=((bN r).getD k bd).sec/\((bN r).getD k bd).sec<L.secs.length
 len: ∀ k,k<(bN r).length->2<=i7 L (bN r) k/\l<=i7 L (bN r) k/\i7 L (bN r) k<=400
 leni: ∀ k,k<(bN r).length->(L.secs.getD ((bN r).getD k bd).sec.toNat cD).len=i7 L (bN r) k
 one:dL L r=i7 L (bN r) 0
 all:(dZ L (bN r)).length=i7 L (bN r) 0+aT L (bN r) ((bN r).length-1)
 bad:dy (dZ L (bN r)) (dL L r) l sp ac br=0
 tl:vT (dZ L (bN r)) (dL L r) l sp ac br=row (aT L (bN r) ((bN r).length-1)+1) (eY L r l sp ac br)
 rng: ∀ j,j<=aT L (bN r) ((bN r).length-1)->0<=eY L r l sp ac br j/\eY L r l sp ac br j<=80000000
theorem iv (L:bJ) (ts:List bD) {i j:Nat} (h:i<=j):aT L ts i<=aT L ts j:=by
 induction j with
 |zero=>rw[Nat.le_zero.1 h];exact Nat.le_refl _
 |succ j ih=>
  rcases Nat.lt_or_ge i (j+1) with h1|h1
  ·exact Nat.le_trans (ih (by omega)) (Nat.le_add_right _ _)
  ·rw[show i=j+1 by omega];exact Nat.le_refl _
theorem wW (L:bJ) (ts:List bD): ∀ k,k<ts.length->(dZ L (ts.take (k+1))).length=i7 L ts 0+aT L ts k
 |0,h=>by
  rw[jq L h,List.length_append];simp[dZ,fg,i7,aT]
 |k+1,h=>by
  rw[jq L h,List.length_append,wW L ts k (by omega)];simp only[fg,List.length_replicate,aT,i7,fP];omega
theorem yJ {L:bJ} (hV:Valid L): ∀ {l:List bD},l.all (bD.ok L)=true->(dZ L l).all eG=true
 |[],_=>rfl
 |s::l,h=>by
  rw[List.all_cons,Bool.and_eq_true] at h;have ih:=yJ hV h.2;obtain ⟨a,b,_⟩:=dE h.1;have h2:=mr (vL hV (i:=s.sec.toNat) (by omega));unfold dZ at ih⊢;rw[List.flatMap_cons,List.all_append,ih,Bool.and_true,List.all_eq_true];intro c hc;rw[(List.mem_replicate.1 hc).2];unfold uA eG fP;rw[decide_eq_true_eq];split<;>(simp only;omega)
theorem oc {L:bJ} {r:jV} {l sp ac br:Int} (h:b8 L r l sp ac br=0):CK L r l sp ac br:=by
 have hc:cZ L r=0:=by
  unfold b8 at h;split at h
  ·exact h
  ·rename_i h2;simpa using h2
 unfold b8 at h;rw[if_neg (by simpa using hc)] at h;by_cases hk:ic l sp ac br=false
 ·rw[if_pos hk] at h;cases h
 rw[if_neg hk] at h;by_cases ht:(bN r).any (tight L l)=true
 ·rw[if_pos ht] at h;cases h
 clear h;have hk:ic l sp ac br=true:=by simpa using hk
 have hq:=iu hk;have hr:=cJ (eQ hc);have hV:=df hr.lay;have hn:=tL hr;have h1:=hr.two;have h2:=hr.ov0;have h3:=hr.len;have hok:(bN r).all (bD.ok L)=true:=pJ hr.ok _;have hsec: ∀ k,k<(bN r).length->0<=((bN r).getD k bd).sec/\((bN r).getD k bd).sec<L.secs.length:=fun k hk=>by
  obtain ⟨a,b,_⟩:=dE (dY hok hk);exact ⟨a,b⟩
 have hb: ∀ k,k<(bN r).length->1<=(fP L ((bN r).getD k bd)).len/\(fP L ((bN r).getD k bd)).len<=400/\max 2 l<=(fP L ((bN r).getD k bd)).len:=fun k hk=>by
  have h4:=mr (vL hV (i:=((bN r).getD k bd).sec.toNat) (by have:=hsec k hk;omega));have h5:tight L l ((bN r).getD k bd)=false:=by
   cases e:tight L l ((bN r).getD k bd)
   ·rfl
   ·exact absurd (yy hk e) ht
  unfold tight at h5;rw[decide_eq_false_iff_not] at h5;exact ⟨h4.1,h4.2.1,by omega⟩
 have hlen: ∀ k,k<(bN r).length->2<=i7 L (bN r) k/\l<=i7 L (bN r) k/\i7 L (bN r) k<=400:=fun k hk=>by
  have:=hb k hk;unfold fP at this
  unfold i7;omega
 have hli: ∀ k,k<(bN r).length->(L.secs.getD ((bN r).getD k bd).sec.toNat cD).len=i7 L (bN r) k:=fun k hk=>by
  have:=hb k hk;unfold fP at this
  unfold i7;omega
 have hall:=wW L (bN r) ((bN r).length-1) (by omega);rw[show (bN r).length-1+1=(bN r).length by omega,List.take_length] at hall
 have hone:dL L r=i7 L (bN r) 0:=by
  unfold dL;rw[if_pos hc,← hli 0 (by omega),vU hr (by omega)]
 have hc4:(dZ L (bN r)).length<=4000:=by
  unfold cZ at hc;rw[if_neg (by simpa using eQ hc)] at hc;split at hc
  ·cases hc
  ·omega
 have he1:aT L (bN r) 1<=aT L (bN r) ((bN r).length-1):=iv L (bN r) (by omega);have he2:aT L (bN r) 1=i7 L (bN r) 1:=Nat.zero_add _;have hl1:=hlen 1 (by omega);have hbad:dy (dZ L (bN r)) (dL L r) l sp ac br=0:=IY hk (by omega) (yJ hV hok) (by rw[hone];omega);have htl:vT (dZ L (bN r)) (dL L r) l sp ac br=row (aT L (bN r) ((bN r).length-1)+1) (eY L r l sp ac br):=by
  unfold vT eY;rw[if_pos hbad,hall,hone,Int.toNat_natCast,Nat.add_sub_cancel_left]
 refine ⟨hr,hc,hk,hn,by omega,by omega,hsec,hlen,hli,hone,hall,hbad,htl,fun j hj=> ?_⟩;have h5:=rP (start:=(dL L r).toNat) (l:=l.toNat) hq.2.2.1 hq.2.2.2.1 hq.2.2.2.2.1 hq.2.2.2.2.2.1 hq.2.2.2.2.2.2.1 hq.2.2.2.2.2.2.2 (yJ hV hok) (by rw[hone,Int.toNat_natCast];omega) j (by rw[hone,Int.toNat_natCast];omega);unfold eY;omega
def q7 (L:bJ) (r:jV) (l sp ac br:Int) (n:Nat):List Int:=row n fun k=>eY L r l sp ac br (aT L (bN r) (k-1))
def jf (L:bJ) (r:jV) (l sp ac br:Int) (k:Nat):Int:=eY L r l sp ac br (if k+1<(bN r).length then aT L (bN r) k+l.toNat else aT L (bN r) k)
def rl (L:bJ) (r:jV) (l sp ac br:Int) (n:Nat):List Int:=row n (jf L r l sp ac br)
def lC (L:bJ) (r:jV) (l sp ac br:Int):Int:=Pl.cdiv (eY L r l sp ac br (aT L (bN r) ((bN r).length-1))) 1000
theorem de (n:Nat) (f:Nat->Int):row (n+1) f=row n f++[f n]:=by
 unfold row;rw[List.range_succ,List.map_append];rfl
theorem Ku (X:List Int) (v:Int):(SC.c (aa.f (ag.row (List.flatMap ez X++[ag.v (.int .i64 v)]) (X.length+1)))).den=(fN (X++[v])).den:=by
 show aa.f (ag.row (List.flatMap ez X++[ag.v (.int .i64 v)]) (X.length+1))=aa.f (ag.row (List.flatMap ez (X++[v])) (X++[v]).length);rw[List.flatMap_append,List.length_append];rfl
theorem K5 (A C D:SC) (X:List Int) (v:Int):(ql [ST.c A,ST.c (SC.c (aa.f (ag.row (List.flatMap ez X++[ag.v (.int .i64 v)]) (X.length+1)))),ST.c C,ST.c D]).den=(SV.cC [ST.c A,ST.c (fN (X++[v])),ST.c C,ST.c D]).den:=by
 show ad.cC [.c A.den,.c (SC.den _),.c C.den,.c D.den]=ad.cC [.c A.den,.c (SC.den _),.c C.den,.c D.den];rw[Ku]
theorem RB (a:Int) (ha: -9223372036854775808<=a/\a<=9223372036854775807):cd Tryz.prog 199 [.c (xI a)] [] (vI (Pl.cdiv a 1000)) []:=by
 have h:=rY a 1000 ha (by omega);refine FQ Tryz.func199 ?_;simp only[cu,Nat.zero_add,Nat.reduceAdd]
 repeat' (first|with_reducible (first|refine ab ?_ ?_|exact True.intro|exact bu.nil _|refine DQ ?_|fail)|((with_reducible apply aC);refine an (h) rfl ?_)|refine RQ ?_|fail)
 repeat' (first|with_reducible (first|refine KQ ?_|exact True.intro)|refine mB.c ?_)
theorem Oz (L:bJ) (hL:bZ L) (st:List bD) (ov:Int) (hl:st.length<=9223372036854775807) (ho: -9223372036854775808<=ov/\ov<=9223372036854775807) (nm:ByteArray) (l sp ac br:Int) (h: ¬ b8 L ⟨st,ov⟩ l sp ac br=0):cd Tryz.prog 150 [bK L,sO st ov,pj nm l sp ac br] [] (.cC [.c (fN []),.c (fN []),.c (xI 0),.c (xI (b8 L ⟨st,ov⟩ l sp ac br))]) []:=by
 have hF:=Dl L hL st ov hl ho nm l sp ac br;rw[if_neg h,if_neg h] at hF
 unfold bK at hF⊢;refine FQ Tryz.func150 ?_;simp only[cu,Nat.zero_add,Nat.reduceAdd]
 repeat' (first|with_reducible (first|refine ab ?_ ?_|exact True.intro|exact bu.nil _|refine DQ ?_|fail)|((with_reducible apply aC);refine an (hF) rfl ?_)|((with_reducible apply bH);intro hbq;(try simp only[bq] at hbq);(try (exfalso;omega)))|refine RQ ?_|fail)
 ·rfl
theorem wS (L:bJ) (hL:bZ L) (st:List bD) (ov:Int) (hl:st.length<=9223372036854775807) (ho: -9223372036854775808<=ov/\ov<=9223372036854775807) (nm:ByteArray) (l sp ac br:Int) (h:b8 L ⟨st,ov⟩ l sp ac br=0):cd Tryz.prog 150 [bK L,sO st ov,pj nm l sp ac br] [] (.cC [.c (fN (q7 L ⟨st,ov⟩ l sp ac br (bN ⟨st,ov⟩).length)),.c (fN (rl L ⟨st,ov⟩ l sp ac br (bN ⟨st,ov⟩).length)),.c (xI (lC L ⟨st,ov⟩ l sp ac br)),.c (xI 0)]) []:=by
 have hF:=Dl L hL st ov hl ho nm l sp ac br;rw[h,if_pos rfl,if_pos rfl] at hF
 have hR:=oc h;obtain ⟨r1,r2,r3,r4,r5,r6,r7,r8,r9,r10,r11,r12,r13,r14⟩:=hR;have hq:=iu r3;have hr1:=r1.ov0;have hr2:=r1.two;simp only at hr1 hr2 r4
 have hn3:=(df r1.lay).n3;have hm:=KY (dZ L (bN ⟨st,ov⟩)) (dL L ⟨st,ov⟩) nm l sp ac br (by
  have:=(gL r12).2.1;omega)
 rw[r13,r12] at hm;have hT:=qG st ov hl ⟨by omega,by omega⟩;unfold q7 rl jf lC;generalize hT':eY L ⟨st,ov⟩ l sp ac br=T at*;generalize hts:bN ⟨st,ov⟩=ts at*;unfold bK at hF⊢;refine FQ Tryz.func150 ?_;simp only[cu,Nat.zero_add,Nat.reduceAdd]
 repeat' (first|with_reducible (first|refine ab ?_ ?_|exact True.intro|refine DQ ?_|fail)|((with_reducible apply aC);first|refine an (hF) rfl ?_|refine an (hm) rfl ?_|refine an (hT) rfl ?_)|((with_reducible apply bH);intro hbq;(try simp only[bq] at hbq);(try (exfalso;omega)))|refine RQ ?_|fail)
 clear hF hm hT r13 r12 r11 r10;have hrl:(row (aT L ts (ts.length-1)+1) T).length=_:=aJ _ _;have hE: ∀ j,j+1<=ts.length->aT L ts j<=aT L ts (ts.length-1):=fun j hj=>iv L ts (by omega)
 have hEb:aT L ts (ts.length-1)<=400*24:=by
  have: ∀ j,j+1<=ts.length->aT L ts j<=400*j:=by
   intro j
   induction j with
   |zero=>intro _;exact Nat.le_refl _
   |succ j ih=>intro hj;have:=ih (by omega);have:=(r8 (j+1) (by omega)).2.2;simp only[aT];omega
  have:=this (ts.length-1) (by omega);omega
 refine aH (fun k:Nat=>SS [sC 3 (pB 0),sC 5 (pB 2),sC 6 (ph (row k fun k=>T (aT L ts (k-1)))),sC 7 (ph (row (min k (ts.length-1)) fun k=>T (aT L ts k+l.toNat))),sC 11 (fN (row (aT L ts (ts.length-1)+1) T)),sC 13 (mK ts),sI 14 (aT L ts (k-1)),sC 38 (mK ts),sI 39 ts.length,sI 40 k] [lQ L,none,Lh nm l sp ac br]) (fun k=>k<=ts.length) (fun k=>ts.length-k) 0 ?_ (by omega) ?_
 ·
  refine WQ ?_ ?_<;>repeat' (first|with_reducible (first|refine KQ ?_|refine ab ?_ ?_|exact True.intro)|refine ax rfl ?_ ?_|exact aE.ah|exact aE.ao|exact aE.al|refine aN.cells ?_ ?_|refine aN.bF ?_ ?_|refine cg.cons ?_ ?_|exact (rfl:known _=_)|exact (rfl:aF _=true)|with_reducible rfl|omega)
  all_goals rfl
 intro k hk;have hl1:=aJ k fun k=>T (aT L ts (k-1))
 have hl2:=aJ (min k (ts.length-1)) fun k=>T (aT L ts k+l.toNat)
 by_cases hkn:k<ts.length
 ·have f0:=hE (k-1) (by omega)
  have f2:=hE k (by omega);have f1:0<k->aT L ts k=aT L ts (k-1)+i7 L ts k:=fun h=>by
   obtain ⟨j,rfl⟩: ∃ j,k=j+1:=⟨k-1,by omega⟩;rfl
  have f3:k+1<ts.length->aT L ts k+l.toNat<=aT L ts (ts.length-1):=fun h=>by
   have a:=hE (k+1) (by omega);have b:=(r8 (k+1) h).2.1;simp only[aT] at a
   omega
  have g1:0<=(ts.getD (k:Int).toNat { sec:=0,dir:=0 }).sec/\(ts.getD (k:Int).toNat { sec:=0,dir:=0 }).sec<L.secs.length:=r7 k hkn;have g2:(L.secs.getD (ts.getD (k:Int).toNat { sec:=0,dir:=0 }).sec.toNat cD).len=(i7 L ts k:Nat):=r9 k hkn;have g3:=r8 k hkn;generalize i7 L ts k=sk at*
  have hex:(row (aT L ts (ts.length-1)+1) T).getD ((aT L ts (k-1):Nat):Int).toNat 0=T (aT L ts (k-1)):=by rw[Int.toNat_natCast,ct (by omega)]
  have f5:aT L ts (k+1-1)=aT L ts k:=rfl;have f6:k=0->aT L ts (k-1)=aT L ts k:=fun h=>by rw[h]
  have m1:k+1<ts.length->min (k+1) (ts.length-1)=min k (ts.length-1)+1:=fun h=>by omega
  have m2:k+1<ts.length->min k (ts.length-1)=k:=fun h=>by omega
  have m3: ¬ k+1<ts.length->min (k+1) (ts.length-1)=min k (ts.length-1):=fun h=>by omega
  repeat' (first|with_reducible (first|exact VQ|refine ab ?_ ?_|exact True.intro|assumption)|((with_reducible apply bH);intro hbq;(try simp only[bq] at hbq);(try (exfalso;omega)))|refine RQ ?_|((with_reducible apply db);rfl)|omega)
  ·have c:k+1<ts.length:=by omega
   have hex2:(row (aT L ts (ts.length-1)+1) T).getD ((aT L ts (k-1):Nat)+(L.secs.getD (ts.getD (k:Int).toNat { sec:=0,dir:=0 }).sec.toNat cD).len+l).toNat 0=T (aT L ts k+l.toNat):=by
    rw[show ((aT L ts (k-1):Nat)+(L.secs.getD (ts.getD (k:Int).toNat { sec:=0,dir:=0 }).sec.toNat cD).len+l).toNat=aT L ts k+l.toNat by omega,ct (by omega)]
   refine az (k+1) ?_ ((by omega)) (by (try dsimp only);omega);refine WQ ?_ ?_<;>repeat' (first|with_reducible (first|refine KQ ?_|refine ab ?_ ?_|exact True.intro)|refine ax rfl ?_ ?_|exact aE.ah|exact aE.ao|exact aE.al|refine aN.cells ?_ ?_|refine aN.bF ?_ ?_|refine cg.cons ?_ ?_|exact (rfl:known _=_)|exact (rfl:aF _=true)|with_reducible rfl|omega)
   ·rw[hex,de];simp[ez,fI]
   ·rw[aJ,aJ]
   ·rw[hex2,m1 c,de,m2 c];simp[ez,fI]
   ·rw[aJ,aJ,m1 c]
  ·have c: ¬ k+1<ts.length:=by omega
   refine az (k+1) ?_ ((by omega)) (by (try dsimp only);omega);refine WQ ?_ ?_<;>repeat' (first|with_reducible (first|refine KQ ?_|refine ab ?_ ?_|exact True.intro)|refine ax rfl ?_ ?_|exact aE.ah|exact aE.ao|exact aE.al|refine aN.cells ?_ ?_|refine aN.bF ?_ ?_|refine cg.cons ?_ ?_|exact (rfl:known _=_)|exact (rfl:aF _=true)|with_reducible rfl|omega)
   ·rw[hex,de];simp[ez,fI]
   ·rw[aJ,aJ]
   ·rw[m3 c]
  ·have c:k+1<ts.length:=by omega
   have hex2:(row (aT L ts (ts.length-1)+1) T).getD ((aT L ts (k-1):Nat)+l).toNat 0=T (aT L ts k+l.toNat):=by
    rw[show ((aT L ts (k-1):Nat)+l).toNat=aT L ts k+l.toNat by omega,ct (by omega)]
   refine az (k+1) ?_ ((by omega)) (by (try dsimp only);omega);refine WQ ?_ ?_<;>repeat' (first|with_reducible (first|refine KQ ?_|refine ab ?_ ?_|exact True.intro)|refine ax rfl ?_ ?_|exact aE.ah|exact aE.ao|exact aE.al|refine aN.cells ?_ ?_|refine aN.bF ?_ ?_|refine cg.cons ?_ ?_|exact (rfl:known _=_)|exact (rfl:aF _=true)|with_reducible rfl|omega)
   ·rw[hex,de];simp[ez,fI]
   ·rw[aJ,aJ]
   ·rw[hex2,m1 c,de,m2 c];simp[ez,fI]
   ·rw[aJ,aJ,m1 c]
 ·have hkn:k=ts.length:=by omega
  subst hkn;have hex:(row (aT L ts (ts.length-1)+1) T).getD ((aT L ts (ts.length-1):Nat):Int).toNat 0=T (aT L ts (ts.length-1)):=by rw[Int.toNat_natCast,ct (by omega)]
  have hr:=r14 _ (Nat.le_refl _);have hU:=RB ((row (aT L ts (ts.length-1)+1) T).getD ((aT L ts (ts.length-1):Nat):Int).toNat 0) (by rw[hex];omega)
  repeat' (first|with_reducible (first|exact VQ|refine ab ?_ ?_|exact True.intro|exact bu.nil _|refine DQ ?_|fail)|((with_reducible apply aC);refine an (hU) rfl ?_)|((with_reducible apply bH);intro hbq;(try simp only[bq] at hbq);(try (exfalso;omega)))|refine RQ ?_|((with_reducible apply db);rfl)|omega)
  have hlev:(row ts.length fun k=>T (if k+1<ts.length then aT L ts k+l.toNat else aT L ts k))=(row (min ts.length (ts.length-1)) fun k=>T (aT L ts k+l.toNat))++[T (aT L ts (ts.length-1))]:=by
   have e:ts.length=ts.length-1+1:=by omega
   rw[Nat.min_eq_right (by omega)]
   conv=>lhs;rw[show row ts.length=row (ts.length-1+1) by rw[← e]]
   rw[de,if_neg (by omega)];congr 1;exact ef fun j hj=>by rw[if_pos (by omega)]
  rw[hlev];simp only[hex];apply K5
theorem NW (L:bJ) (hL:bZ L) (st:List bD) (ov:Int) (hl:st.length<=9223372036854775807) (ho: -9223372036854775808<=ov/\ov<=9223372036854775807) (nm:ByteArray) (l sp ac br:Int) (h: ¬ b8 L ⟨st,ov⟩ l sp ac br=0):cd Tryz.prog 77 [bK L,sO st ov,pj nm l sp ac br] [] (.cC [.c (fN []),.c (fN []),.c (xI 0),.c (xI (b8 L ⟨st,ov⟩ l sp ac br))]) []:=by
 have hF:=o9 L hL st ov hl ho nm l sp ac br;unfold bK at hF⊢
 refine FQ Tryz.func77 ?_;simp only[cu,Nat.zero_add,Nat.reduceAdd]
 repeat' (first|with_reducible (first|refine ab ?_ ?_|exact True.intro|exact bu.nil _|refine DQ ?_|fail)|((with_reducible apply aC);refine an (hF) rfl ?_)|((with_reducible apply bH);intro hbq;(try simp only[bq] at hbq);(try (exfalso;omega)))|refine RQ ?_|fail)
 ·rfl
theorem DM (L:bJ) (hL:bZ L) (st:List bD) (ov:Int) (hl:st.length<=9223372036854775807) (ho: -9223372036854775808<=ov/\ov<=9223372036854775807) (nm:ByteArray) (l sp ac br:Int) (h:b8 L ⟨st,ov⟩ l sp ac br=0):cd Tryz.prog 77 [bK L,sO st ov,pj nm l sp ac br] [] (.cC [.c (fN (q7 L ⟨st,ov⟩ l sp ac br (bN ⟨st,ov⟩).length)),.c (fN (rl L ⟨st,ov⟩ l sp ac br (bN ⟨st,ov⟩).length)),.c (xI (lC L ⟨st,ov⟩ l sp ac br)),.c (xI 0)]) []:=by
 have hF:=o9 L hL st ov hl ho nm l sp ac br;rw[h] at hF
 have hR:=oc h;have hat: ∀ i:Nat,(i:Int)<st.length-ov->(bN ⟨st,ov⟩).getD i bd=st.getD i bd:=fun i hi=>vU hR.rt hi
 obtain ⟨r1,r2,r3,r4,r5,r6,r7,r8,r9,r10,r11,r12,r13,r14⟩:=hR;have hq:=iu r3;have hr1:=r1.ov0;have hr2:=r1.two;simp only at hr1 hr2 r4;have hn3:=(df r1.lay).n3;have hC:=sB L hL st ov hl ho;unfold oO at hC;rw[r2,if_pos rfl] at hC;have hm:=BU (dZ L (bN ⟨st,ov⟩)) (dL L ⟨st,ov⟩) nm l sp ac br (by
  have:=(gL r12).2.1;omega)
 rw[r13,r12] at hm;unfold q7 rl jf lC;generalize hT':eY L ⟨st,ov⟩ l sp ac br=T at*;generalize hts:bN ⟨st,ov⟩=ts at*;unfold bK at hF hC⊢;refine FQ Tryz.func77 ?_;simp only[cu,Nat.zero_add,Nat.reduceAdd]
 repeat' (first|with_reducible (first|refine ab ?_ ?_|exact True.intro|refine DQ ?_|fail)|((with_reducible apply aC);first|refine an (hF) rfl ?_|refine an (hC) rfl ?_|refine an (hm) rfl ?_)|((with_reducible apply bH);intro hbq;(try simp only[bq] at hbq);(try (exfalso;omega)))|refine RQ ?_|fail)
 clear hF hm hC r13 r12 r11 r10;have hrl:(row (aT L ts (ts.length-1)+1) T).length=_:=aJ _ _;have hE: ∀ j,j+1<=ts.length->aT L ts j<=aT L ts (ts.length-1):=fun j hj=>iv L ts (by omega)
 have hEb:aT L ts (ts.length-1)<=400*24:=by
  have: ∀ j,j+1<=ts.length->aT L ts j<=400*j:=by
   intro j
   induction j with
   |zero=>intro _;exact Nat.le_refl _
   |succ j ih=>intro hj;have:=ih (by omega);have:=(r8 (j+1) (by omega)).2.2;simp only[aT];omega
  have:=this (ts.length-1) (by omega);omega
 refine aH (fun k:Nat=>SS [sC 3 (pB 0),sC 4 (pB 1),sC 5 (pB 2),sC 6 (ph (row k fun k=>T (aT L ts (k-1)))),sC 7 (ph (row k fun k=>T (if k+1<ts.length then aT L ts k+l.toNat else aT L ts k))),sC 14 (fN (row (aT L ts (ts.length-1)+1) T)),sI 16 (aT L ts (k-1)),sI 17 k] [lQ L,kK st ov,Lh nm l sp ac br]) (fun k=>k<=ts.length) (fun k=>ts.length-k) 0 ?_ (by omega) ?_
 ·
  refine WQ ?_ ?_<;>repeat' (first|with_reducible (first|refine KQ ?_|refine ab ?_ ?_|exact True.intro)|refine ax rfl ?_ ?_|exact aE.ah|exact aE.ao|exact aE.al|refine aN.cells ?_ ?_|refine aN.bF ?_ ?_|refine cg.cons ?_ ?_|exact (rfl:known _=_)|exact (rfl:aF _=true)|with_reducible rfl|omega)
  all_goals rfl
 intro k hk;have hl1:=aJ k fun k=>T (aT L ts (k-1))
 have hl2:=aJ k fun k=>T (if k+1<ts.length then aT L ts k+l.toNat else aT L ts k)
 by_cases hkn:k<ts.length
 ·have f0:=hE (k-1) (by omega)
  have f2:=hE k (by omega);have f1:0<k->aT L ts k=aT L ts (k-1)+i7 L ts k:=fun h=>by
   obtain ⟨j,rfl⟩: ∃ j,k=j+1:=⟨k-1,by omega⟩;rfl
  have f3:k+1<ts.length->aT L ts k+l.toNat<=aT L ts (ts.length-1):=fun h=>by
   have a:=hE (k+1) (by omega);have b:=(r8 (k+1) h).2.1;simp only[aT] at a
   omega
  have f4: ¬ k+1<ts.length->aT L ts k=aT L ts (ts.length-1):=fun h=>by rw[show k=ts.length-1 by omega]
  have g0:ts.getD k bd=st.getD (k:Int).toNat { sec:=0,dir:=0 }:=hat k (by omega);have g1:0<=(st.getD (k:Int).toNat { sec:=0,dir:=0 }).sec/\(st.getD (k:Int).toNat { sec:=0,dir:=0 }).sec<L.secs.length:=by rw[← g0];exact r7 k hkn
  have g2:(L.secs.getD (st.getD (k:Int).toNat { sec:=0,dir:=0 }).sec.toNat cD).len=(i7 L ts k:Nat):=by rw[← g0];exact r9 k hkn
  have g3:=r8 k hkn;generalize i7 L ts k=sk at*
  have hex:(row (aT L ts (ts.length-1)+1) T).getD ((aT L ts (k-1):Nat):Int).toNat 0=T (aT L ts (k-1)):=by rw[Int.toNat_natCast,ct (by omega)]
  have f5:aT L ts (k+1-1)=aT L ts k:=rfl;have f6:k=0->aT L ts (k-1)=aT L ts k:=fun h=>by rw[h]
  have hv: ∀ z:Int,z=min ((aT L ts k:Int)+l) (aT L ts (ts.length-1):Int)->(row (aT L ts (ts.length-1)+1) T).getD z.toNat 0=T (if k+1<ts.length then aT L ts k+l.toNat else aT L ts k):=fun z hz=>by
   by_cases c:k+1<ts.length
   ·have:=f3 c
    rw[if_pos c,show z.toNat=aT L ts k+l.toNat by omega,ct (by omega)]
   ·have:=f4 c
    rw[if_neg c,show z.toNat=aT L ts k by omega,ct (by omega)]
  repeat' (first|with_reducible (first|exact BQ|exact VQ|refine ab ?_ ?_|exact True.intro)|((with_reducible apply bH);intro hbq;(try simp only[bq] at hbq);(try (exfalso;omega)))|refine RQ ?_|((with_reducible apply db);rfl)|omega)
  ·
   refine az (k+1) ?_ ((by omega)) (by (try dsimp only);omega);refine WQ ?_ ?_<;>repeat' (first|with_reducible (first|refine KQ ?_|refine ab ?_ ?_|exact True.intro)|refine ax rfl ?_ ?_|exact aE.ah|exact aE.ao|exact aE.al|refine aN.cells ?_ ?_|refine aN.bF ?_ ?_|refine cg.cons ?_ ?_|exact (rfl:known _=_)|exact (rfl:aF _=true)|with_reducible rfl|omega)
   ·rw[hex,de];simp[ez,fI]
   ·rw[aJ,aJ]
   ·rw[hv _ (by omega),de];simp[ez,fI]
   ·rw[aJ,aJ]
  ·
   refine az (k+1) ?_ ((by omega)) (by (try dsimp only);omega);refine WQ ?_ ?_<;>repeat' (first|with_reducible (first|refine KQ ?_|refine ab ?_ ?_|exact True.intro)|refine ax rfl ?_ ?_|exact aE.ah|exact aE.ao|exact aE.al|refine aN.cells ?_ ?_|refine aN.bF ?_ ?_|refine cg.cons ?_ ?_|exact (rfl:known _=_)|exact (rfl:aF _=true)|with_reducible rfl|omega)
   ·rw[hex,de];simp[ez,fI]
   ·rw[aJ,aJ]
   ·rw[hv _ (by omega),de];simp[ez,fI]
   ·rw[aJ,aJ]
 ·have hkn:k=ts.length:=by omega
  subst hkn;have hex:(row (aT L ts (ts.length-1)+1) T).getD (((row (aT L ts (ts.length-1)+1) T).length:Int)-1).toNat 0=T (aT L ts (ts.length-1)):=by rw[hrl,show (((aT L ts (ts.length-1)+1:Nat):Int)-1).toNat=aT L ts (ts.length-1) by omega,ct (by omega)]
  have hr:=r14 _ (Nat.le_refl _);have hU:=sA ((row (aT L ts (ts.length-1)+1) T).getD (((row (aT L ts (ts.length-1)+1) T).length:Int)-1).toNat 0) 1000 (by rw[hex];omega) (by omega)
  repeat' (first|with_reducible (first|exact VQ|refine ab ?_ ?_|exact True.intro|exact bu.nil _|refine DQ ?_|fail)|((with_reducible apply aC);refine an (hU) rfl ?_)|((with_reducible apply bH);intro hbq;(try simp only[bq] at hbq);(try (exfalso;omega)))|refine RQ ?_|omega)
  simp only[hex];rfl
section
variable (L:bJ) (r:jV) (l sp ac br bf af:Int)
def jd (k:Nat):Int:=eY L r l sp ac br (aT L (bN r) (k-1))
end
theorem Hv {L:bJ} {r:jV} {l sp ac br:Int} (h:CK L r l sp ac br) {i j:Nat} (hij:i<=j) (hj:j<=aT L (bN r) ((bN r).length-1)):eY L r l sp ac br i<=eY L r l sp ac br j:=by
 have hq:=iu h.chk;have hb:=gL h.bad;have ha:=h.all;have ho:=h.one
 induction j with
 |zero=>rw[Nat.le_zero.1 hij];exact Int.le_refl _
 |succ j ih=>
  rcases Nat.lt_or_ge i (j+1) with h1|h1
  ·refine Int.le_trans (ih (by omega) (by omega)) ?_
   have:=jT (start:=(dL L r).toNat) (l:=l.toNat) hq.2.2.1 hq.2.2.2.1 hq.2.2.2.2.1 hq.2.2.2.2.2.1 hq.2.2.2.2.2.2.1 hq.2.2.2.2.2.2.2 hb.2.2.1 (by omega) j (by omega);unfold eY;simp only[wB];omega
  ·rw[show i=j+1 by omega];exact Int.le_refl _
section
variable {L:bJ} {r:jV} {l sp ac br bf af:Int} (h:CK L r l sp ac br)
include h
theorem Ph {j:Nat} (hj:j<(bN r).length):aT L (bN r) j<=(if j+1<(bN r).length then aT L (bN r) j+l.toNat else aT L (bN r) j)/\(if j+1<(bN r).length then aT L (bN r) j+l.toNat else aT L (bN r) j)<=aT L (bN r) ((bN r).length-1):=by
 have a:=iv L (bN r) (show j<=(bN r).length-1 by omega);split
 ·rename_i c
  have b:=iv L (bN r) (show j+1<=(bN r).length-1 by omega);have d:=(h.len (j+1) c).2.1;have hq:=iu h.chk;simp only[aT] at b
  omega
 ·omega
end
theorem Pd {L:bJ} (hV:Valid L) {a:bD} {h:rR} (hm:h∈oE L a): -1<=h.pt/\h.pt<L.pts.length:=by
 unfold oE at hm;obtain ⟨k,hk,e⟩:=List.mem_filterMap.1 hm;have hl:=gQ (hV.v4 k hk);unfold mH at e;split at e
 ·injection e with e;subst e;exact ⟨hl.2.2.2.2.2.2.2.2.1,hl.2.2.2.2.2.2.2.2.2.1⟩
 ·split at e
  ·injection e with e;subst e;exact ⟨hl.2.2.2.2.2.2.2.2.1,hl.2.2.2.2.2.2.2.2.2.1⟩
  ·cases e
theorem Fk {L:bJ} {r:jV} (h:mN L r) {i:Nat} (h0:0<i) (hi:i<r.st.length): ∃ k,ij L (r.st.getD (i-1) bd) (r.st.getD i bd)=some k/\ -1<=k.pt/\k.pt<L.pts.length:=by
 have hk:=List.all_eq_true.1 h.link (i-1) (List.mem_range.2 (by omega));unfold iw at hk
 rw[Nat.sub_add_cancel h0] at hk;obtain ⟨k,hk⟩:=Option.isSome_iff_exists.1 hk;refine ⟨k,hk,?_⟩;unfold ij at hk;exact Pd (df h.lay) (List.mem_of_find?_eq_some hk)
section
variable {L:bJ} {r:jV} {l sp ac br:Int} (h:CK L r l sp ac br)
include h
theorem MY {i j:Nat} (hij:i<j) (hj:j<=aT L (bN r) ((bN r).length-1)):eY L r l sp ac br i<eY L r l sp ac br j:=by
 have a:=Hv h (i:=i+1) (j:=j) (by omega) hj;have hq:=iu h.chk;have hb:=gL h.bad;have hall:=h.all;have ho:=h.one;have b:=jT (start:=(dL L r).toNat) (l:=l.toNat) hq.2.2.1 hq.2.2.2.1 hq.2.2.2.2.1 hq.2.2.2.2.2.1 hq.2.2.2.2.2.2.1 hq.2.2.2.2.2.2.2 hb.2.2.1 (by omega) i (by omega);unfold eY at a⊢
 simp only[wB] at a;omega
theorem L7 {i j:Nat} (hij:i<j) (hj:j<(bN r).length):aT L (bN r) i<aT L (bN r) j:=by
 have a:=iv L (bN r) (show i+1<=j by omega);have b:=(h.len (i+1) (by omega)).1;simp only[aT] at a
 omega
end
theorem FR {L:bJ} {r:jV} (h:mN L r) {i j:Nat} (hij:i<j) (hj:j<r.st.length):(r.st.getD i bd).sec.toNat≠(r.st.getD j bd).sec.toNat:=by
 intro e;have ai:=dY h.ok (i:=i) (by omega);have aj:=dY h.ok hj;obtain ⟨a1,_,_⟩:=dE ai;obtain ⟨b1,_,_⟩:=dE aj;have hd:iM r.st j=true:=by
  unfold iM;rw[List.any_eq_true];refine ⟨r.st.getD i bd,?_,by simp only[decide_eq_true_eq];omega⟩;rw[List.getD_eq_getElem?_getD,List.getElem?_eq_getElem (show i<r.st.length by omega),Option.getD_some,List.mem_iff_getElem];exact ⟨i,by rw[List.length_take];omega,by rw[List.getElem_take]⟩
 have:=yV hj hd;rw[h.dup] at this
 cases this
section
variable {L:bJ} {st:List bD} {ov:Int} (h:mN L ⟨st,ov⟩) (F T P:Nat->Int)
include h
end
theorem ku {L:bJ} {r:jV} {l sp ac br:Int} (h:b8 L r l sp ac br=0):cZ L r=0/\ic l sp ac br=true/\(bN r).any (tight L l)=false:=by
 have hc:cZ L r=0:=by
  unfold b8 at h;split at h
  ·exact h
  ·rename_i h2;simpa using h2
 unfold b8 at h;rw[if_neg (by simpa using hc)] at h;by_cases hk:ic l sp ac br=false
 ·rw[if_pos hk] at h;cases h
 rw[if_neg hk] at h;by_cases ht:(bN r).any (tight L l)=true
 ·rw[if_pos ht] at h;cases h
 exact ⟨hc,by simpa using hk,by simpa using ht⟩
theorem I8 (L:bJ) (a b:List bD):dZ L (a++b)=dZ L a++dZ L b:=by unfold dZ;rw[List.flatMap_append]
theorem BF (st:List bD) {a n i:Nat} (h:i<n):((st.drop a).take n).getD i bd=st.getD (a+i) bd:=by
 rw[List.getD_eq_getElem?_getD,List.getElem?_take_of_lt h,List.getElem?_drop,← List.getD_eq_getElem?_getD]
theorem CZ {l:List bD} {p:bD->Bool} (h:l.any p=false) {i:Nat} (hi:i<l.length):p (l.getD i bd)=false:=by
 cases e:p (l.getD i bd) with
 |false=>rfl
 |true=>rw[yy hi e] at h;cases h
theorem M4 {L:bJ} {r:jV} {l sp ac br:Int} (h:CK L r l sp ac br):0<lC L r l sp ac br:=by
 have hn:=h.n2;have a:=L7 h (i:=0) (j:=(bN r).length-1) (by omega) (by omega);have b:=MY h (i:=0) (j:=aT L (bN r) ((bN r).length-1)) (by simp only[aT] at a;exact a) (Nat.le_refl _);have e:eY L r l sp ac br 0=0:=rfl;have c:=Pl.lS (eY L r l sp ac br (aT L (bN r) ((bN r).length-1))) 1000 (by omega);unfold lC;omega
theorem xA {L:bJ} {st:List bD} {ov l sp ac br:Int} (h:b8 L ⟨st,ov⟩ l sp ac br=0) {a m:Nat} {o:Int} (h0:0<=o) (ho:o<=2) (hm:o+2<=m) (hb:a+m<=st.length) (hc:((a+m:Nat):Int)-o<=st.length-ov):b8 L ⟨(st.drop a).take m,o⟩ l sp ac br=0:=by
 obtain ⟨h1,h2,h3⟩:=ku h;have hr:=cJ (eQ h1);have g1:=hr.ov0;have g2:=hr.two;have g3:=hr.len;simp only at g1 g2 g3;have htl:=tL hr;simp only at htl;have hpl:((st.drop a).take m).length=m:=by rw[List.length_take,List.length_drop];omega
 have hpg: ∀ i,i<m->((st.drop a).take m).getD i bd=st.getD (a+i) bd:=fun i hi=>BF st hi
 have htg: ∀ i:Nat,(i:Int)<st.length-ov->(bN ⟨st,ov⟩).getD i bd=st.getD i bd:=fun i hi=>vU hr hi
 have hR:cw L ⟨(st.drop a).take m,o⟩=0:=by
  refine FH hr.lay ?_ ?_ ?_ ?_ ?_
  ·simp only[hpl];omega
  ·simp only[hpl];omega
  ·refine tf fun j hj=> ?_
   simp only[hpl] at hj⊢;rw[hpg j hj];exact dY hr.ok (by simp only;omega)
  ·refine yU fun j hj=> ?_
   simp only[hpl] at hj⊢;cases e:iM ((st.drop a).take m) j with
   |false=>rfl
   |true=>
    exfalso;unfold iM at e
    obtain ⟨x,hx,e2⟩:=List.any_eq_true.1 e;obtain ⟨i,hi,rfl⟩:=List.mem_iff_getElem.1 hx;rw[List.length_take,hpl] at hi;have hi2:i<j:=by omega
    have e3:((List.take m (st.drop a)).take j)[i]=st.getD (a+i) bd:=by
     rw[← hpg i (by omega),List.getElem_take,List.getD_eq_getElem?_getD,List.getElem?_eq_getElem (by omega)];rfl
    rw[decide_eq_true_eq] at e2;rw[e3,hpg j hj] at e2;exact FR hr (i:=a+i) (j:=a+j) (by omega) (by simp only;omega) (by simp only;rw[e2])
  ·refine qf fun j hj=> ?_
   simp only[hpl] at hj⊢;unfold iw;rw[hpg j (by omega),hpg (j+1) hj];have:=List.all_eq_true.1 hr.link (a+j) (List.mem_range.2 (by simp only;omega));exact this
 have htr:bN ⟨(st.drop a).take m,o⟩=((bN ⟨st,ov⟩).drop a).take (m-o.toNat):=by
  unfold bN;simp only[hpl];rw[List.take_take,List.drop_take,List.take_take];congr 1;omega
 have hC:cZ L ⟨(st.drop a).take m,o⟩=0:=by
  refine ux hR ?_;rw[htr];have h4: ¬ 4000<(dZ L (bN ⟨st,ov⟩)).length:=by
   intro h5;rw[uy (eQ h1) h5] at h1
   cases h1
  have e1:=congrArg (fun x=>(dZ L x).length) (List.take_append_drop a (bN ⟨st,ov⟩));have e2:=congrArg (fun x=>(dZ L x).length) (List.take_append_drop (m-o.toNat) ((bN ⟨st,ov⟩).drop a));simp only[I8,List.length_append] at e1 e2
  omega
 refine Jq hC h2 (yz fun j hj=> ?_);rw[htr] at hj⊢
 rw[List.length_take,List.length_drop] at hj;rw[BF _ (by omega)];exact CZ h3 (by omega)
theorem su (n p:Nat): ∀ (r:List dF) (prev:List dF),bm n p prev r=0-> ∀ i,(h:i<r.length)->cN n p (prev++r.take i) r[i]=0
 |[],_,_,i,h=>by simp at h
 |x::r,prev,hz,i,h=>by
  simp only[bm] at hz;by_cases hx:cN n p prev x=0
  ·rw[if_pos hx] at hz
   cases i with
   |zero=>simpa using hx
   |succ i=>
    have:=su n p r (prev++[x]) hz i (by simpa using h);simpa[List.append_assoc] using this
  ·rw[if_neg hx] at hz;exact absurd hz hx
theorem GW {L:bJ} (hv:bB L=0) {i j:Nat} (hij:i<j) (hj:j<L.lnks.length) {s t:bD} (h1:nK s t (L.lnks.getD i a9)=true) (h2:nK s t (L.lnks.getD j a9)=true):False:=by
 have hl:bm L.secs.length L.pts.length [] L.lnks=0:=by
  unfold bB at hv;split at hv
  ·cases hv
  ·split at hv
   ·cases hv
   ·exact (dC (dC (dC hv).2).2).2
 have hx:=su _ _ L.lnks [] hl j hj;rw[List.nil_append] at hx
 have ei:L.lnks.getD i a9=L.lnks[i]:=by rw[List.getD_eq_getElem?_getD,List.getElem?_eq_getElem (by omega)];rfl
 have ej:L.lnks.getD j a9=L.lnks[j]:=by rw[List.getD_eq_getElem?_getD,List.getElem?_eq_getElem hj];rfl
 rw[ei] at h1;rw[ej] at h2;unfold cN at hx;split at hx
 ·cases hx
 ·split at hx
  ·cases hx
  ·split at hx
   ·cases hx
   ·rename_i hno
    apply hno;refine List.any_eq_true.2 ⟨L.lnks[i],List.mem_iff_getElem.2 ⟨i,by rw[List.length_take];omega,List.getElem_take ..⟩,?_⟩;unfold nK at h1 h2
    unfold eU;rw[Bool.or_eq_true,decide_eq_true_eq,decide_eq_true_eq] at h1 h2;rw[Bool.and_eq_true,decide_eq_true_eq,decide_eq_true_eq];rcases h1 with ⟨⟨a1,a2⟩,a3,a4⟩|⟨⟨a1,a2⟩,a3,a4⟩<;>rcases h2 with ⟨⟨b1,b2⟩,b3,b4⟩|⟨⟨b1,b2⟩,b3,b4⟩
    ·exact ⟨.inl ⟨a1.trans b1.symm,a2.trans b2.symm⟩,.inr ⟨a3.trans b3.symm,a4.trans b4.symm⟩⟩
    ·exact ⟨.inr ⟨a3.trans b1.symm,a4.trans b2.symm⟩,.inl ⟨a1.trans b3.symm,a2.trans b4.symm⟩⟩
    ·exact ⟨.inr ⟨a3.trans b1.symm,a4.trans b2.symm⟩,.inl ⟨a1.trans b3.symm,a2.trans b4.symm⟩⟩
    ·exact ⟨.inl ⟨a1.trans b1.symm,a2.trans b2.symm⟩,.inr ⟨a3.trans b3.symm,a4.trans b4.symm⟩⟩
def fM (L:bJ) (st:List bD) (i:Nat):Int:=if i=0 then -1 else ((ij L (st.getD (i-1) bd) (st.getD i bd)).map rR.pt).getD (-1)
def p9 (s t:bD) (l:List dF):Int:=l.foldl (fun v k=>if nK s t k=true then k.pt else v) (-1)
theorem u0 (s t:bD) (l:List dF) (k:dF):p9 s t (l++[k])=if nK s t k=true then k.pt else p9 s t l:=by unfold p9;rw[List.foldl_append];rfl
theorem Bm {s t:bD}: ∀ {l:List dF} {v:Int},(∀ k∈l,nK s t k=false)->l.foldl (fun v k=>if nK s t k=true then k.pt else v) v=v
 |[],v,_=>rfl
 |k::l,v,h=>by
  rw[List.foldl_cons,if_neg (by rw[h k (List.mem_cons_self ..)];decide)];exact Bm fun x hx=>h x (List.mem_cons_of_mem _ hx)
theorem Bl {s t:bD}: ∀ {l:List dF} {v:Int},(∀ i j,i<j->j<l.length->nK s t (l.getD i a9)=true->nK s t (l.getD j a9)=true->False)->l.foldl (fun v k=>if nK s t k=true then k.pt else v) v=((l.find? (nK s t)).map dF.pt).getD v
 |[],v,_=>rfl
 |k::l,v,h=>by
  rw[List.foldl_cons,List.find?_cons];cases e:nK s t k with
  |true=>
   rw[if_pos rfl];show _=k.pt
   refine Bm fun x hx=> ?_
   obtain ⟨i,hi,rfl⟩:=List.mem_iff_getElem.1 hx;cases e2:nK s t l[i] with
   |false=>rfl
   |true=>
    exfalso;refine h 0 (i+1) (by omega) (by simpa using hi) e ?_;rw[List.getD_cons_succ,List.getD_eq_getElem?_getD,List.getElem?_eq_getElem hi];exact e2
  |false=>
   rw[if_neg (by decide)];exact Bl fun i j hij hj h1 h2=>h (i+1) (j+1) (by omega) (by simpa using hj) h1 h2
theorem Jz {L:bJ} (hv:bB L=0) {s t:bD} (hs:s.dir=0\/s.dir=1) (ht:t.dir=0\/t.dir=1):p9 s t L.lnks=((ij L s t).map rR.pt).getD (-1):=by
 have h1:=Bl (s:=s) (t:=t) (l:=L.lnks) (v:= -1) fun i j hij hj h1 h2=>GW hv hij hj h1 h2
 have h2:=my hv hs ht;unfold kH at h2
 unfold p9;rw[h1,h2]
def wi (L:bJ) (st:List bD):Bool:=(List.range st.length).any fun i=>decide (0<=fM L st i)&&(List.range i).any fun j=>decide (fM L st j=fM L st i)
def eV (L:bJ) (r:jV) (l sp ac br:Int):Int:=if b8 L r l sp ac br≠0 then b8 L r l sp ac br else if wi L r.st=true then 13 else 0
def dV (st:List bD) (ov:Int) (a b:Nat):jV:=if (b:Int)=st.length-ov-1 then ⟨st.drop a,ov⟩ else ⟨(st.drop a).take (b+1-a),0⟩
theorem rC {L:bJ} {st:List bD} {ov l sp ac br:Int} (h:b8 L ⟨st,ov⟩ l sp ac br=0) {a b:Nat} (hab:a<b) (hb:(b:Int)<=st.length-ov-1):b8 L (dV st ov a b) l sp ac br=0:=by
 have hr:=cJ (eQ (ku h).1);have g1:=hr.ov0;have g2:=hr.ov;simp only at g1 g2
 unfold dV;split
 ·rename_i e
  have:=xA h (a:=a) (m:=st.length-a) (o:=ov) g1 g2 (by omega) (by omega) (by omega)
  rwa [List.take_of_length_le (by rw[List.length_drop];omega)] at this
 ·exact xA h (a:=a) (m:=b+1-a) (o:=0) (by omega) (by omega) (by omega) (by omega) (by omega)
theorem xz {L:bJ} {st:List bD} {ov l sp ac br:Int} (h:b8 L ⟨st,ov⟩ l sp ac br=0) {a b:Nat} (hab:a<b) (hb:(b:Int)<=st.length-ov-1):(bN (dV st ov a b)).length=b-a+1:=by
 have hr:=cJ (eQ (ku h).1);have g1:=hr.ov0;simp only at g1
 unfold dV;split
 ·rename_i e
  unfold bN;simp only[List.length_take,List.length_drop];omega
 ·unfold bN
  simp only[List.length_take,List.length_drop];omega
section
variable (L:bJ) (r:jV) (l sp ac br:Int)
def sx (k:Nat):Int:=jd L r l sp ac br k / 1000-16
def sy (k:Nat):Int:=jd L r l sp ac br (k+1) / 1000
def AP (k:Nat):Int:=(jf L r l sp ac br k+999) / 1000+4
def J3 (n:Nat):Int:=if 0<r.ov then jd L r l sp ac br n / 1000-16 else 0
end
theorem gX {L:bJ} {r:jV} {l sp ac br:Int} (h:CK L r l sp ac br) {k:Nat} (hk:k<(bN r).length):0<=jd L r l sp ac br k/\jd L r l sp ac br k<=80000000/\0<=jf L r l sp ac br k/\jf L r l sp ac br k<=80000000:=by
 have a:=h.rng _ (iv L (bN r) (show k-1<=(bN r).length-1 by omega));have b:=h.rng _ (Ph h hk).2;exact ⟨a.1,a.2,b.1,b.2⟩
theorem M5 {L:bJ} {r:jV} {l sp ac br:Int} (h:CK L r l sp ac br):0<lC L r l sp ac br/\lC L r l sp ac br<=80001:=by
 have a:=h.rng _ (Nat.le_refl _);obtain ⟨b1,b2⟩:=Pl.lS (eY L r l sp ac br (aT L (bN r) ((bN r).length-1))) 1000 (by omega);refine ⟨M4 h,?_⟩;unfold lC;omega
section
variable (g:Nat->Int) (m:Nat) (N:Nat->Nat->Int) (R:Nat->Nat->Int) (O:Nat->Int) (ov late:Int)
end
def lB {α:Type} (n:Nat) (f:Nat->α):List α:=(List.range n).map f
theorem B1 {α:Type} (n:Nat) (f:Nat->α):(lB n f).length=n:=by simp[lB]
theorem B0 {α:Type} {n:Nat} {f:Nat->α} {i:Nat} {d:α} (h:i<n):(lB n f).getD i d=f i:=by simp[lB,List.getD_eq_getElem?_getD,h]
theorem B4 {α:Type} {n:Nat} {f g:Nat->α} {i:Nat} {x:α} (hx:g i=x) (h: ∀ j,j<n->j≠i->g j=f j):(lB n f).set i x=lB n g:=by
 apply List.ext_getElem
 ·simp[lB]
 ·intro j h1 h2
  have hj:j<n:=by simpa[lB] using h2
  rw[List.getElem_set];split
  ·rename_i e;subst e;simp[lB,hx]
  ·rename_i e;simp only[lB,List.getElem_map,List.getElem_range];exact (h j hj (fun e'=>e e'.symm)).symm
theorem vH {α:Type} {n:Nat} {f g:Nat->α} (h: ∀ j,j<n->f j=g j):lB n f=lB n g:=by
 unfold lB;exact List.map_congr_left fun j hj=>h j (List.mem_range.1 hj)
theorem B3 {α:Type} (n:Nat) (d:α):List.replicate n d=lB n fun _=>d:=by
 apply List.ext_getElem
 ·simp[lB]
 ·intro j h1 h2;simp[lB]
def iR (L:bJ) (st:List bD) (i:Nat) (p:Nat):Bool:=(List.range i).any fun j=>decide (fM L st j=(p:Int))
def kQ (L:bJ) (st:List bD) (i:Nat):Bool:=decide (0<=fM L st i)&&(List.range i).any fun j=>decide (fM L st j=fM L st i)
theorem AS {L:bJ} {st:List bD} {i:Nat} (hi:i<st.length) (h:kQ L st i=true):wi L st=true:=List.any_eq_true.2 ⟨i,List.mem_range.2 hi,h⟩
theorem EV {L:bJ} {st:List bD} (h: ∀ i,i<st.length->kQ L st i=false):wi L st=false:=by
 unfold wi;rw[List.any_eq_false];intro i hi;have:=h i (List.mem_range.1 hi);unfold kQ at this;rw[this];exact Bool.false_ne_true
theorem iz (L:bJ) (st:List bD) (i p:Nat):iR L st (i+1) p=(iR L st i p||decide (fM L st i=(p:Int))):=by
 unfold iR;rw[List.range_succ,List.any_append,List.any_cons,List.any_nil,Bool.or_false]
theorem xM {L:bJ} {st:List bD} {i:Nat} (h0:0<=fM L st i):kQ L st i=iR L st i (fM L st i).toNat:=by
 unfold kQ iR;rw[decide_eq_true h0,Bool.true_and,Int.toNat_of_nonneg h0]
theorem FC {L:bJ} {r:jV} (h:mN L r) {i:Nat} (hi:i<r.st.length): -1<=fM L r.st i/\fM L r.st i<L.pts.length:=by
 unfold fM;split
 ·omega
 ·obtain ⟨k,h1,h2,h3⟩:=Fk h (i:=i) (by omega) hi
  rw[h1];exact ⟨h2,h3⟩
theorem JI {l:List dF} {i:Nat} (hi:i<l.length):l.take (i+1)=l.take i++[l.getD i a9]:=by rw[List.take_succ_eq_append_getElem hi,List.getD_eq_getElem?_getD,List.getElem?_eq_getElem hi];rfl
theorem G0 (s:bD):cd Tryz.prog 195 [x4 s] [] (vI (kx s.dir)) []:=by
 unfold kx;refine FQ Tryz.func195 ?_;simp only[cu,Nat.zero_add,Nat.reduceAdd]
 repeat' (first|with_reducible (first|refine ab ?_ ?_|exact True.intro|exact bu.nil _|refine DQ ?_|fail)|with_reducible (refine ay ?_)|((with_reducible apply av);refine aq rfl ?_ ?_;all_goals (intro hbq;(try simp only[bq] at hbq);(try (exfalso;omega))))|refine RQ ?_|fail)
 ·rw[if_pos hbq]
  repeat' (first|with_reducible (first|refine KQ ?_|exact True.intro)|refine mB.c ?_)
 ·rw[if_neg hbq]
  repeat' (first|with_reducible (first|refine KQ ?_|exact True.intro)|refine mB.c ?_)
theorem GY (s:bD) (h:s.dir=0\/s.dir=1):cd Tryz.prog 196 [x4 s] [] (vI (kx (rF s.dir))) []:=by
 unfold kx rF;refine FQ Tryz.func196 ?_;simp only[cu,Nat.zero_add,Nat.reduceAdd]
 repeat' (first|with_reducible (first|refine ab ?_ ?_|exact True.intro|exact bu.nil _|refine DQ ?_|fail)|with_reducible (refine ay ?_)|((with_reducible apply av);refine aq rfl ?_ ?_;all_goals (intro hbq;(try simp only[bq] at hbq);(try (exfalso;omega))))|refine RQ ?_|fail)
 ·rw[if_pos hbq]
  repeat' (first|with_reducible (first|refine KQ ?_|fail)|refine mB.c ?_|rfl)
 ·rw[if_neg hbq]
  repeat' (first|with_reducible (first|refine KQ ?_|fail)|refine mB.c ?_|rfl)
theorem DB (L:bJ) (hL:bZ L) (st:List bD) (ov:Int) (hR:mN L ⟨st,ov⟩):cd Tryz.prog 149 [bK L,sO st ov] [] (.c (fN (row st.length (fM L st)))) []:=by
 have hV:=df hR.lay;have hn:=hR.len;simp only at hn
 have hn4:=hV.n4;have hdir: ∀ i,i<st.length->(st.getD i bd).dir=0\/(st.getD i bd).dir=1:=fun i hi=>(dE (dY hR.ok hi)).2.2
 have hpt: ∀ i,0<i->i<st.length->p9 (st.getD (i-1) bd) (st.getD i bd) L.lnks=fM L st i:=fun i h0 hi=>by
  rw[Jz hR.lay (hdir _ (by omega)) (hdir _ hi)];unfold fM;rw[if_neg (by omega)]
 unfold bK;refine PQ Tryz.func149 ?_;simp only[cu,Nat.zero_add,Nat.reduceAdd]
 repeat' (first|with_reducible (first|refine ab ?_ ?_|exact True.intro|refine DQ ?_|fail)|with_reducible (first|refine ay ?_|refine aD ?_)|refine RQ ?_|omega|(dsimp only;omega))
 refine aH (fun i:Nat=>SS [sC 2 (pB 0),sC 3 (pB 1),sC 5 (.c (.arr 2 0 st.length st.length)),sI 18 st.length,sI 19 i] [lQ L,kK st ov,sW (row st.length fun j=>if j<i then fM L st j else 0)]) (fun i=>i<=st.length) (fun i=>st.length-i) 0 ?_ (by omega) ?_
 ·
  refine WQ ?_ ?_<;>repeat' (first|with_reducible (first|refine KQ ?_|refine ab ?_ ?_|exact True.intro)|refine ax rfl ?_ ?_|exact aE.ah|exact aE.ao|exact aE.al|refine aN.cells ?_ ?_|refine aN.bF ?_ ?_|refine cg.cons ?_ ?_|exact (rfl:known _=_)|exact (rfl:aF _=true)|with_reducible rfl|omega)
  all_goals first
   |rfl
   |(rw[Int.toNat_natCast,nC];rfl)
 intro i hi;have hrl:=aJ st.length fun j=>if j<i then fM L st j else 0
 by_cases hil:i<st.length
 ·by_cases hi0:i=0
  ·
   repeat' (first|with_reducible (first|refine ab ?_ ?_|exact True.intro|refine DQ ?_|assumption)|with_reducible (first|refine ay ?_|refine aD ?_)|((with_reducible apply av);refine aq rfl ?_ ?_;all_goals (intro hbq;(try simp only[bq] at hbq);(try (exfalso;omega))))|refine RQ ?_|((with_reducible apply aL);exact fun _=>⟨rfl,rfl⟩)|omega)
   ·rfl
   ·
    refine az (i+1) ?_ ((by omega)) (by (try dsimp only);omega);refine WQ ?_ ?_<;>repeat' (first|with_reducible (first|refine KQ ?_|refine ab ?_ ?_|exact True.intro)|refine ax rfl ?_ ?_|exact aE.ah|exact aE.ao|exact aE.al|refine aN.cells ?_ ?_|refine aN.bF ?_ ?_|refine cg.cons ?_ ?_|exact (rfl:known _=_)|exact (rfl:aF _=true)|with_reducible rfl|omega)
    all_goals (
     rw[Int.toNat_natCast];refine gm (i:=i) ?_ fun j hj hne=> ?_
     ·rw[if_pos (by omega),hi0];rfl
     ·by_cases h1:j<i
      ·rw[if_pos h1,if_pos (by omega)]
      ·rw[if_neg h1,if_neg (by omega)])
  ·
   have e0:(row st.length fun j=>if j<i then fM L st j else 0).set (i:Int).toNat (-1)=row st.length fun j=>if j<i then fM L st j else if j=i then p9 (st.getD (i-1) bd) (st.getD i bd) (L.lnks.take 0) else 0:=by
    rw[Int.toNat_natCast];refine gm (i:=i) ?_ fun j hj hne=> ?_
    ·rw[if_neg (by omega),if_pos rfl];rfl
    ·by_cases h1:j<i
     ·rw[if_pos h1,if_pos h1]
     ·rw[if_neg h1,if_neg h1,if_neg hne]
   have e1:((i:Int)-1).toNat=i-1:=by omega
   have hpi:=hpt i (by omega) hil;have d1:=hdir (i-1) (by omega);have d2:=hdir i hil;clear hpt hdir
   repeat' (first|with_reducible (first|refine ab ?_ ?_|exact True.intro|refine DQ ?_|assumption)|((with_reducible apply Rn);refine Ao [0,1,2,3,4,5,6,7,8,9,10] 11 12 [13,14] 3 (by kernel_rfl) rfl rfl rfl rfl ?_)|((with_reducible apply Kc);kernel_rfl)|((with_reducible apply Ka);exact Af rfl)|((with_reducible apply Kb);refine Ah rfl ?_)|with_reducible (first|refine ay ?_|refine aD ?_)|((with_reducible apply av);refine aq rfl ?_ ?_;all_goals (intro hbq;(try simp only[bq] at hbq);(try (exfalso;omega))))|refine RQ ?_|((with_reducible apply aL);exact fun _=>⟨rfl,rfl⟩)|omega)
   ·rfl
   all_goals (
    rw[e0,e1,Int.toNat_natCast];generalize hA:st.getD (i-1) bd=a at*;generalize hB:st.getD i bd=b at*;have hl1:=G0 a;have hl2:=GY b d2;refine aH (fun k:Nat=>SS [sC 2 (pB 0),sC 3 (pB 1),sC 5 (.c (.arr 2 0 st.length st.length)),sI 6 i,sC 7 (pB 3),sC 8 (pB 4),sI 18 st.length,sI 19 i,sC 39 (kC L.lnks),sI 40 L.lnks.length,sI 41 k] [lQ L,kK st ov,sW (row st.length fun j=>if j<i then fM L st j else if j=i then p9 a b (L.lnks.take k) else 0),some (.cells [xI a.sec,xI a.dir]),some (.cells [xI b.sec,xI b.dir])]) (fun k=>k<=L.lnks.length) (fun k=>L.lnks.length-k) 0 ?_ (by omega) ?_
    ·
     refine WQ ?_ ?_<;>repeat' (first|with_reducible (first|refine KQ ?_|refine ab ?_ ?_|exact True.intro)|refine ax rfl ?_ ?_|exact aE.ah|exact aE.ao|exact aE.al|refine aN.cells ?_ ?_|refine aN.bF ?_ ?_|refine cg.cons ?_ ?_|exact (rfl:known _=_)|exact (rfl:aF _=true)|with_reducible rfl|omega)
    intro k hk;have hrl2:=aJ st.length fun j=>if j<i then fM L st j else if j=i then p9 a b (L.lnks.take k) else 0
    by_cases hkl:k<L.lnks.length
    ·have e2:L.lnks.take (k+1)=L.lnks.take k++[L.lnks.getD k a9]:=JI hkl
     repeat' (first|with_reducible (first|refine ab ?_ ?_|exact True.intro|refine DQ ?_|assumption)|((with_reducible apply aZ);refine aX ((fun _=>hl1)) rfl ?_ ?_)|((with_reducible apply aZ);refine aX ((fun _=>hl2)) rfl ?_ ?_)|with_reducible (first|refine ay ?_|refine aD ?_)|((with_reducible apply av);refine aq rfl ?_ ?_;all_goals (intro hbq;(try simp only[bq] at hbq);(try (exfalso;omega))))|refine RQ ?_|(intro (hgq:(_:Bool)=true);(try simp only[bq] at hgq))|(intro (hgq:(_:Bool)=false);(try simp only[bq] at hgq))|((with_reducible apply aL);exact fun _=>⟨rfl,rfl⟩)|((with_reducible apply bh);kernel_rfl)|((with_reducible apply cH);simp only[bq])|(simp only[hgq,bq];done)|omega)
     ·rfl
     ·have ht:nK a b (L.lnks.getD k a9)=true:=by
       simp only[Int.toNat_natCast] at hbq;unfold nK;simp only[Bool.or_eq_true,decide_eq_true_eq];omega
      refine az (k+1) ?_ ((by omega)) (by (try dsimp only);omega);refine WQ ?_ ?_<;>repeat' (first|with_reducible (first|refine KQ ?_|refine ab ?_ ?_|exact True.intro)|refine ax rfl ?_ ?_|exact aE.ah|exact aE.ao|exact aE.al|refine aN.cells ?_ ?_|refine aN.bF ?_ ?_|refine cg.cons ?_ ?_|exact (rfl:known _=_)|exact (rfl:aF _=true)|with_reducible rfl|omega)
      all_goals (
       simp only[Int.toNat_natCast];rw[e2];refine gm (i:=i) ?_ fun j hj hne=> ?_
       ·rw[if_neg (by omega),if_pos rfl,u0,if_pos ht]
       ·by_cases h1:j<i
        ·rw[if_pos h1,if_pos h1]
        ·rw[if_neg h1,if_neg h1,if_neg hne,if_neg hne])
     ·have ht: ¬ nK a b (L.lnks.getD k a9)=true:=by
       simp only[Int.toNat_natCast] at hbq;unfold nK;simp only[Bool.or_eq_true,decide_eq_true_eq];omega
      refine az (k+1) ?_ ((by omega)) (by (try dsimp only);omega);refine WQ ?_ ?_<;>repeat' (first|with_reducible (first|refine KQ ?_|refine ab ?_ ?_|exact True.intro)|refine ax rfl ?_ ?_|exact aE.ah|exact aE.ao|exact aE.al|refine aN.cells ?_ ?_|refine aN.bF ?_ ?_|refine cg.cons ?_ ?_|exact (rfl:known _=_)|exact (rfl:aF _=true)|with_reducible rfl|omega)
      all_goals (rw[e2,u0,if_neg ht])
    ·have hke:k=L.lnks.length:=by omega
     subst hke;rw[List.take_length] at*
     repeat' (first|with_reducible (first|refine ab ?_ ?_|exact True.intro|refine DQ ?_|fail)|with_reducible (refine ay ?_)|((with_reducible apply av);refine aq rfl ?_ ?_;all_goals (intro hbq;(try simp only[bq] at hbq);(try (exfalso;omega))))|refine RQ ?_|omega)
     ·
      refine az (i+1) ?_ ((by omega)) (by (try dsimp only);omega);refine WQ ?_ ?_<;>repeat' (first|with_reducible (first|refine KQ ?_|refine ab ?_ ?_|exact True.intro)|refine ax rfl ?_ ?_|exact aE.ah|exact aE.ao|exact aE.al|refine aN.cells ?_ ?_|refine aN.bF ?_ ?_|refine cg.cons ?_ ?_|exact (rfl:known _=_)|exact (rfl:aF _=true)|with_reducible rfl|omega)
      all_goals (
       refine ef fun j hj=> ?_
       by_cases h1:j<i
       ·rw[if_pos h1,if_pos (by omega)]
       ·by_cases h2:j=i
        ·rw[if_neg h1,if_pos h2,if_pos (by omega),h2,hpi]
        ·rw[if_neg h1,if_neg h2,if_neg (by omega)]))
 ·have hie:i=st.length:=by omega
  subst hie;have hr:(row st.length fun j=>if j<st.length then fM L st j else 0)=row st.length (fM L st):=ef fun j hj=>if_pos hj
  repeat' (first|with_reducible (first|refine ab ?_ ?_|exact True.intro|refine DQ ?_|assumption)|with_reducible (refine ay ?_)|((with_reducible apply av);refine aq rfl ?_ ?_;all_goals (intro hbq;(try simp only[bq] at hbq);(try (exfalso;omega))))|refine RQ ?_|(intro _;exact rfl)|((with_reducible apply db);rfl))
  rw[hr];rfl
theorem vc (st:List bD) (ov:Int) (hl:st.length<=9223372036854775807) (h0:0<=ov/\ov<=st.length):cd Tryz.prog 99 [sO st ov] [] (vI (st.length-ov-1)) []:=by
 refine FQ Tryz.func99 ?_;simp only[cu,Nat.zero_add,Nat.reduceAdd]
 repeat' (first|with_reducible (first|refine ab ?_ ?_|exact True.intro|exact bu.nil _|refine DQ ?_|fail)|with_reducible (refine ay ?_)|refine RQ ?_|omega)
 repeat' (first|with_reducible (first|refine KQ ?_|exact True.intro)|refine mB.c ?_)
theorem qq (st:List bD) (ov:Int) (hl:st.length<=9223372036854775807) (h0:0<=ov/\ov<=st.length):cd Tryz.prog 44 [sO st ov] [] (vI (st.length-ov-1)) []:=by
 refine FQ Tryz.func44 ?_;simp only[cu,Nat.zero_add,Nat.reduceAdd]
 repeat' (first|with_reducible (first|refine ab ?_ ?_|exact True.intro|exact bu.nil _|refine DQ ?_|fail)|with_reducible (refine ay ?_)|refine RQ ?_|omega)
 repeat' (first|with_reducible (first|refine KQ ?_|exact True.intro)|refine mB.c ?_)
theorem vb (L:bJ) (hL:bZ L) (st:List bD) (ov:Int) (hl:st.length<=9223372036854775807) (ho: -9223372036854775808<=ov/\ov<=9223372036854775807) (nm:ByteArray) (l sp ac br:Int):cd Tryz.prog 98 [bK L,sO st ov,pj nm l sp ac br] [] (vI (eV L ⟨st,ov⟩ l sp ac br)) []:=by
 have hF:=Md L hL st ov hl ho nm l sp ac br;unfold eV;by_cases h:b8 L ⟨st,ov⟩ l sp ac br=0
 ·have hR:=cJ (eQ (ku h).1)
  have hV:=df hR.lay;have hn:=hR.len;have hn2:=hV.n2;have hP:=DB L hL st ov hR;have hpr: ∀ i,i<st.length-> -1<=fM L st i/\fM L st i<L.pts.length:=fun i hi=>FC hR hi
  simp only at hn;rw[h] at hF;rw[h,if_neg (by decide)];unfold bK at hF hP⊢;have hpl:=aJ st.length (fM L st);refine FQ Tryz.func98 ?_;simp only[cu,Nat.zero_add,Nat.reduceAdd]
  repeat' (first|with_reducible (first|refine ab ?_ ?_|exact True.intro|refine DQ ?_|fail)|((with_reducible apply aC);first|refine an (hF) rfl ?_|refine an (hP) rfl ?_)|with_reducible (first|refine ay ?_|refine aD ?_)|((with_reducible apply av);refine aq rfl ?_ ?_;all_goals (intro hbq;(try simp only[bq] at hbq);(try (exfalso;omega))))|refine RQ ?_|omega|(dsimp only;omega))
  clear hF hP;refine aH (fun i:Nat=>SS [sC 8 (.c (.arr 3 0 L.pts.length L.pts.length)),sC 24 (fN (row st.length (fM L st))),sI 25 st.length,sI 26 i] [none,none,none,IX (lB L.pts.length (iR L st i))]) (fun i=>i<=st.length/\ ∀ j,j<i->kQ L st j=false) (fun i=>st.length-i) 0 ?_ ⟨by omega,fun j hj=>by omega⟩ ?_
  ·
   refine WQ ?_ ?_<;>repeat' (first|with_reducible (first|refine KQ ?_|refine ab ?_ ?_|exact True.intro)|refine ax rfl ?_ ?_|exact aE.ah|exact aE.ao|exact aE.al|refine aN.cells ?_ ?_|refine aN.bF ?_ ?_|refine cg.cons ?_ ?_|exact (rfl:known _=_)|exact (rfl:aF _=true)|with_reducible rfl|omega)
   all_goals first
    |rfl
    |(rw[Int.toNat_natCast,B3];rfl)
    |(rw[aJ])
  intro i hi;obtain ⟨hi,hno⟩:=hi;have hsl:=B1 L.pts.length (iR L st i);by_cases hil:i<st.length
  ·have hg:(row st.length (fM L st)).getD (i:Int).toNat 0=fM L st i:=ct hil
   have hpi:=hpr i hil;by_cases h0:0<=fM L st i
   ·have hd:=xM h0
    have hg2:(lB L.pts.length (iR L st i)).getD ((row st.length (fM L st)).getD (i:Int).toNat 0).toNat false=iR L st i (fM L st i).toNat:=by rw[hg];exact B0 (by omega)
    by_cases hs:iR L st i (fM L st i).toNat=true
    ·rw[hs] at hg2 hd
     rw[if_pos (AS hil hd)]
     repeat' (first|with_reducible (first|refine ab ?_ ?_|exact True.intro|exact bu.nil _|refine DQ ?_|fail)|((with_reducible apply av);refine aq rfl ?_ ?_;all_goals (intro hbq;(try simp only[bq,and_true,true_and,and_false,false_and,or_true,true_or,or_false,false_or,not_true_eq_false,not_false_eq_true,Bool.true_eq_false,Bool.false_eq_true,hg2] at hbq);(try (exfalso;omega))))|with_reducible (first|refine ay ?_|refine aD ?_)|refine RQ ?_|((with_reducible apply aL);exact fun _=>⟨rfl,rfl⟩)|omega)
     ·rfl
    ·have hs:iR L st i (fM L st i).toNat=false:=by simpa using hs
     rw[hs] at hg2 hd
     repeat' (first|with_reducible (first|refine ab ?_ ?_|exact True.intro|refine DQ ?_|fail)|((with_reducible apply av);refine aq rfl ?_ ?_;all_goals (intro hbq;(try simp only[bq,and_true,true_and,and_false,false_and,or_true,true_or,or_false,false_or,not_true_eq_false,not_false_eq_true,Bool.true_eq_false,Bool.false_eq_true,hg2] at hbq);(try (exfalso;omega))))|with_reducible (first|refine ay ?_|refine aD ?_)|refine RQ ?_|((with_reducible apply aL);exact fun _=>⟨rfl,rfl⟩)|omega)
     ·rfl
     ·
      refine az (i+1) ?_ (⟨by omega,bR hno hd⟩) (by (try dsimp only);omega);refine WQ ?_ ?_<;>repeat' (first|with_reducible (first|refine KQ ?_|refine ab ?_ ?_|exact True.intro)|refine ax rfl ?_ ?_|exact aE.ah|exact aE.ao|exact aE.al|refine aN.cells ?_ ?_|refine aN.bF ?_ ?_|refine cg.cons ?_ ?_|exact (rfl:known _=_)|exact (rfl:aF _=true)|with_reducible rfl|omega)
      all_goals (
       rw[hg];refine B4 (i:=(fM L st i).toNat) ?_ fun p hp hne=> ?_
       ·rw[iz,decide_eq_true (show fM L st i=((fM L st i).toNat:Int) by omega),Bool.or_true]
       ·rw[iz,decide_eq_false (show ¬ fM L st i=(p:Int) by omega),Bool.or_false])
   ·
    have hd:kQ L st i=false:=by unfold kQ;rw[decide_eq_false h0,Bool.false_and]
    repeat' (first|with_reducible (first|refine ab ?_ ?_|exact True.intro|refine DQ ?_|fail)|with_reducible (first|refine ay ?_|refine aD ?_)|((with_reducible apply av);refine aq rfl ?_ ?_;all_goals (intro hbq;(try simp only[bq] at hbq);(try (exfalso;omega))))|refine RQ ?_|((with_reducible apply aL);exact fun _=>⟨rfl,rfl⟩)|omega)
    ·
     refine az (i+1) ?_ (⟨by omega,bR hno hd⟩) (by (try dsimp only);omega);refine WQ ?_ ?_<;>repeat' (first|with_reducible (first|refine KQ ?_|refine ab ?_ ?_|exact True.intro)|refine ax rfl ?_ ?_|exact aE.ah|exact aE.ao|exact aE.al|refine aN.cells ?_ ?_|refine aN.bF ?_ ?_|refine cg.cons ?_ ?_|exact (rfl:known _=_)|exact (rfl:aF _=true)|with_reducible rfl|omega)
     all_goals (
      refine vH fun p hp=> ?_
      rw[iz,decide_eq_false (show ¬ fM L st i=(p:Int) by omega),Bool.or_false])
  ·have hie:i=st.length:=by omega
   subst hie;rw[EV hno,if_neg (by decide)]
   repeat' (first|with_reducible (first|refine ab ?_ ?_|exact True.intro|exact bu.nil _|refine DQ ?_|fail)|with_reducible (refine ay ?_)|((with_reducible apply av);refine aq rfl ?_ ?_;all_goals (intro hbq;(try simp only[bq] at hbq);(try (exfalso;omega))))|refine RQ ?_|fail)
   all_goals rfl
 ·rw[if_pos h]
  unfold bK at hF⊢;refine FQ Tryz.func98 ?_;simp only[cu,Nat.zero_add,Nat.reduceAdd]
  repeat' (first|with_reducible (first|refine ab ?_ ?_|exact True.intro|exact bu.nil _|refine DQ ?_|fail)|((with_reducible apply aC);refine an (hF) rfl ?_)|with_reducible (refine ay ?_)|((with_reducible apply av);refine aq rfl ?_ ?_;all_goals (intro hbq;(try simp only[bq] at hbq);(try (exfalso;omega))))|refine RQ ?_|fail)
  all_goals rfl
abbrev kZ (a b:Int) (x y z:List Int) (o n:Int):List SC:=[xI a,xI b,fN x,fN y,fN z,xI o,xI n]
def Bk (L:bJ) (r:jV) (l sp ac br:Int) (a b:Nat):List SC:=kZ a b (row (b-a) (sx L r l sp ac br)) (row (b-a) (sy L r l sp ac br)) (row (b-a) (AP L r l sp ac br)) (J3 L r l sp ac br (b-a)) (lC L r l sp ac br)
abbrev NP:List SC:=kZ 0 0 [] [] [] 0 0
def aY (st:List bD) (a b:Nat):List bD:=st.drop (a:Int).toNat
def aV (st:List bD) (a b:Nat):List bD:=(st.drop (a:Int).toNat).take ((b:Int)+1-a).toNat
theorem DS (L:bJ) (hL:bZ L) (st:List bD) (ov:Int) (nm:ByteArray) (l sp ac br:Int) (h:b8 L ⟨st,ov⟩ l sp ac br=0) (a b:Nat) (hab:a<b) (hb:(b:Int)<=st.length-ov-1):cd Tryz.prog 100 [bK L,sO st ov,pj nm l sp ac br,.c (xI a),.c (xI b)] [] (.agg (Bk L (dV st ov a b) l sp ac br a b)) []:=by
 have hR:=cJ (eQ (ku h).1);have g1:=hR.ov0;have g2:=hR.ov;have g3:=hR.len;simp only at g1 g2 g3
 have hf:=rC h hab hb;have hpl:=xz h hab hb;have hla:=vc st ov (by omega) (by omega);have hps:(dV st ov a b).st.length<=24:=by unfold dV;split<;>simp only[List.length_take,List.length_drop]<;>omega
 clear hR;unfold Bk J3;by_cases e:(b:Int)=st.length-ov-1
 ·have hpe:dV st ov a b=⟨aY st a b,ov⟩:=by
   unfold dV
   first
    |(rw[if_pos e];rfl)
    |(rw[if_neg e];unfold aV;rw[Int.toNat_natCast,show ((b:Int)+1-a).toNat=b+1-a by omega])
  rw[hpe] at hf hpl hps⊢;simp only at hps;have hT:=wS L hL (aY st a b) ov (by omega) (by omega) nm l sp ac br hf;have hRd:=oc hf;have hE1:=aJ (bN ⟨aY st a b,ov⟩).length fun k=>eY L ⟨aY st a b,ov⟩ l sp ac br (aT L (bN ⟨aY st a b,ov⟩) (k-1))
  have hL1:=aJ (bN ⟨aY st a b,ov⟩).length (jf L ⟨aY st a b,ov⟩ l sp ac br);change (q7 L ⟨aY st a b,ov⟩ l sp ac br (bN ⟨aY st a b,ov⟩).length).length=_ at hE1
  change (rl L ⟨aY st a b,ov⟩ l sp ac br (bN ⟨aY st a b,ov⟩).length).length=_ at hL1;have hE2: ∀ k,k<b-a+1->(q7 L ⟨aY st a b,ov⟩ l sp ac br (bN ⟨aY st a b,ov⟩).length).getD k 0=jd L ⟨aY st a b,ov⟩ l sp ac br k/\0<=jd L ⟨aY st a b,ov⟩ l sp ac br k/\jd L ⟨aY st a b,ov⟩ l sp ac br k<=80000000:=fun k hk=>⟨ct (by omega),(gX hRd (by omega)).1,(gX hRd (by omega)).2.1⟩
  have hL2: ∀ k,k<b-a+1->(rl L ⟨aY st a b,ov⟩ l sp ac br (bN ⟨aY st a b,ov⟩).length).getD k 0=jf L ⟨aY st a b,ov⟩ l sp ac br k/\0<=jf L ⟨aY st a b,ov⟩ l sp ac br k/\jf L ⟨aY st a b,ov⟩ l sp ac br k<=80000000:=fun k hk=>⟨ct (by omega),(gX hRd (by omega)).2.2⟩
  have hN: ∀ k,k<b-a+1->sx L ⟨aY st a b,ov⟩ l sp ac br k=(jd L ⟨aY st a b,ov⟩ l sp ac br k) / 1000-16:=fun k hk=>rfl
  have hPa: ∀ k,sy L ⟨aY st a b,ov⟩ l sp ac br k=(jd L ⟨aY st a b,ov⟩ l sp ac br (k+1)) / 1000:=fun k=>rfl
  have hCl: ∀ k,AP L ⟨aY st a b,ov⟩ l sp ac br k=(jf L ⟨aY st a b,ov⟩ l sp ac br k+999) / 1000+4:=fun k=>rfl
  clear hRd hf;generalize sx L ⟨aY st a b,ov⟩ l sp ac br=F1 at*
  generalize sy L ⟨aY st a b,ov⟩ l sp ac br=F2 at*;generalize AP L ⟨aY st a b,ov⟩ l sp ac br=F3 at*;generalize jd L ⟨aY st a b,ov⟩ l sp ac br=E1 at*;generalize jf L ⟨aY st a b,ov⟩ l sp ac br=E2 at*;generalize q7 L ⟨aY st a b,ov⟩ l sp ac br (bN ⟨aY st a b,ov⟩).length=es at*;generalize rl L ⟨aY st a b,ov⟩ l sp ac br (bN ⟨aY st a b,ov⟩).length=lv at*;generalize lC L ⟨aY st a b,ov⟩ l sp ac br=run at*;have hE1:es.length=b-a+1:=hE1.trans hpl;have hL1:lv.length=b-a+1:=hL1.trans hpl;clear hpl hpe;unfold aY at hps hT;unfold bK at hT⊢;refine PQ Tryz.func100 ?_;simp only[cu,Nat.zero_add,Nat.reduceAdd]
  repeat' (first|with_reducible (first|refine ab ?_ ?_|exact True.intro|refine DQ ?_|fail)|((with_reducible apply aC);first|refine an (hla) rfl ?_|refine an (hT) rfl ?_)|with_reducible (first|refine ay ?_|refine aD ?_)|((with_reducible apply av);refine aq rfl ?_ ?_;all_goals (intro hbq;(try simp only[bq] at hbq);(try (exfalso;omega))))|refine RQ ?_|(intro _;exact rfl)|((with_reducible apply bh);kernel_rfl)|omega)
  clear hT hla;refine aH (fun k:Nat=>SS [sC 10 (pB 3),sC 11 (pB 4),sC 12 (fN es),sC 13 (fN lv),sC 16 (pB 5),sI 17 ((b:Int)-a),sI 55 ((b:Int)-a),sI 56 k] [none,none,none,some (.cells [xI 0,xI 0,.c (.f .nils),.c (.f .nils),.c (.f .nils),xI 0,xI 0]),kK (aY st a b) ov,some (.cells [xI a,xI b,ph (row k F1),ph (row k F2),ph (row k F3),xI 0,xI run])]) (fun k=>k<=b-a) (fun k=>b-a-k) 0 ?_ (by omega) ?_
  ·
   refine WQ ?_ ?_<;>repeat' (first|with_reducible (first|refine KQ ?_|refine ab ?_ ?_|exact True.intro)|refine ax rfl ?_ ?_|exact aE.ah|exact aE.ao|exact aE.al|refine aN.cells ?_ ?_|refine aN.bF ?_ ?_|refine cg.cons ?_ ?_|exact (rfl:known _=_)|exact (rfl:aF _=true)|with_reducible rfl|omega)
   all_goals rfl
  intro k hk;have q1:=aJ k F1;have q2:=aJ k F2;have q3:=aJ k F3;have m1:es.getD (k:Int).toNat 0=E1 k:=(hE2 k (by omega)).1;have m2:=(hE2 k (by omega)).2;have n1:lv.getD (k:Int).toNat 0=E2 k:=(hL2 k (by omega)).1;have n2:=(hL2 k (by omega)).2;by_cases hkn:k<b-a
  ·have m3:es.getD ((k:Int)+1).toNat 0=E1 (k+1):=(hE2 (k+1) (by omega)).1
   have m4:=(hE2 (k+1) (by omega)).2
   repeat' (first|with_reducible (first|refine ab ?_ ?_|exact True.intro|refine DQ ?_|fail)|with_reducible (first|refine ay ?_|refine aD ?_)|((with_reducible apply av);refine aq rfl ?_ ?_;all_goals (intro hbq;(try simp only[bq] at hbq);(try (exfalso;omega))))|refine RQ ?_|((with_reducible apply aL);exact fun _=>⟨rfl,rfl⟩)|((with_reducible apply bh);kernel_rfl)|((with_reducible apply db);rfl)|omega)
   ·
    refine az (k+1) ?_ ((by omega)) (by (try dsimp only);omega);refine WQ ?_ ?_<;>repeat' (first|with_reducible (first|refine KQ ?_|refine ab ?_ ?_|exact True.intro)|refine ax rfl ?_ ?_|exact aE.ah|exact aE.ao|exact aE.al|refine aN.cells ?_ ?_|refine aN.bF ?_ ?_|refine cg.cons ?_ ?_|exact (rfl:known _=_)|exact (rfl:aF _=true)|with_reducible rfl|omega)
    ·rw[de k F1,hN k (by omega),m1];simp[ez,fI]
    ·rw[aJ,aJ]
    ·rw[de k F2,hPa k,m3];simp[ez,fI]
    ·rw[aJ,aJ]
    ·rw[de k F3,hCl k,n1];simp[ez,fI]
    ·rw[aJ,aJ]
  ·have hke:k=b-a:=by omega
   subst hke;have e3:es.getD ((b:Int)-a).toNat 0=E1 (b-a):=by rw[← m1];congr 1;omega
   repeat' (first|with_reducible (first|exact VQ|refine ab ?_ ?_|exact True.intro|refine DQ ?_|fail)|with_reducible (refine ay ?_)|((with_reducible apply av);refine aq rfl ?_ ?_;all_goals (intro hbq;(try simp only[bq] at hbq);(try (exfalso;omega))))|refine RQ ?_|omega)
   all_goals first
    |(rw[e3];omega)
    |(rw[e3,if_pos hbq];rfl)
    |(rw[if_neg (by first|exact hbq|simp)];rfl)
 ·have hpe:dV st ov a b=⟨aV st a b,0⟩:=by
   unfold dV
   first
    |(rw[if_pos e];rfl)
    |(rw[if_neg e];unfold aV;rw[Int.toNat_natCast,show ((b:Int)+1-a).toNat=b+1-a by omega])
  rw[hpe] at hf hpl hps⊢;simp only at hps;have hT:=wS L hL (aV st a b) 0 (by omega) (by omega) nm l sp ac br hf;have hRd:=oc hf;have hE1:=aJ (bN ⟨aV st a b,0⟩).length fun k=>eY L ⟨aV st a b,0⟩ l sp ac br (aT L (bN ⟨aV st a b,0⟩) (k-1))
  have hL1:=aJ (bN ⟨aV st a b,0⟩).length (jf L ⟨aV st a b,0⟩ l sp ac br);change (q7 L ⟨aV st a b,0⟩ l sp ac br (bN ⟨aV st a b,0⟩).length).length=_ at hE1
  change (rl L ⟨aV st a b,0⟩ l sp ac br (bN ⟨aV st a b,0⟩).length).length=_ at hL1;have hE2: ∀ k,k<b-a+1->(q7 L ⟨aV st a b,0⟩ l sp ac br (bN ⟨aV st a b,0⟩).length).getD k 0=jd L ⟨aV st a b,0⟩ l sp ac br k/\0<=jd L ⟨aV st a b,0⟩ l sp ac br k/\jd L ⟨aV st a b,0⟩ l sp ac br k<=80000000:=fun k hk=>⟨ct (by omega),(gX hRd (by omega)).1,(gX hRd (by omega)).2.1⟩
  have hL2: ∀ k,k<b-a+1->(rl L ⟨aV st a b,0⟩ l sp ac br (bN ⟨aV st a b,0⟩).length).getD k 0=jf L ⟨aV st a b,0⟩ l sp ac br k/\0<=jf L ⟨aV st a b,0⟩ l sp ac br k/\jf L ⟨aV st a b,0⟩ l sp ac br k<=80000000:=fun k hk=>⟨ct (by omega),(gX hRd (by omega)).2.2⟩
  have hN: ∀ k,k<b-a+1->sx L ⟨aV st a b,0⟩ l sp ac br k=(jd L ⟨aV st a b,0⟩ l sp ac br k) / 1000-16:=fun k hk=>rfl
  have hPa: ∀ k,sy L ⟨aV st a b,0⟩ l sp ac br k=(jd L ⟨aV st a b,0⟩ l sp ac br (k+1)) / 1000:=fun k=>rfl
  have hCl: ∀ k,AP L ⟨aV st a b,0⟩ l sp ac br k=(jf L ⟨aV st a b,0⟩ l sp ac br k+999) / 1000+4:=fun k=>rfl
  clear hRd hf;generalize sx L ⟨aV st a b,0⟩ l sp ac br=F1 at*
  generalize sy L ⟨aV st a b,0⟩ l sp ac br=F2 at*;generalize AP L ⟨aV st a b,0⟩ l sp ac br=F3 at*;generalize jd L ⟨aV st a b,0⟩ l sp ac br=E1 at*;generalize jf L ⟨aV st a b,0⟩ l sp ac br=E2 at*;generalize q7 L ⟨aV st a b,0⟩ l sp ac br (bN ⟨aV st a b,0⟩).length=es at*;generalize rl L ⟨aV st a b,0⟩ l sp ac br (bN ⟨aV st a b,0⟩).length=lv at*;generalize lC L ⟨aV st a b,0⟩ l sp ac br=run at*;have hE1:es.length=b-a+1:=hE1.trans hpl;have hL1:lv.length=b-a+1:=hL1.trans hpl;clear hpl hpe;unfold aV at hps hT;unfold bK at hT⊢;refine PQ Tryz.func100 ?_;simp only[cu,Nat.zero_add,Nat.reduceAdd]
  repeat' (first|with_reducible (first|refine ab ?_ ?_|exact True.intro|refine DQ ?_|fail)|((with_reducible apply aC);first|refine an (hla) rfl ?_|refine an (hT) rfl ?_)|with_reducible (first|refine ay ?_|refine aD ?_)|((with_reducible apply av);refine aq rfl ?_ ?_;all_goals (intro hbq;(try simp only[bq] at hbq);(try (exfalso;omega))))|refine RQ ?_|(intro _;exact rfl)|omega)
  clear hT hla;refine aH (fun k:Nat=>SS [sC 10 (pB 3),sC 11 (pB 4),sC 12 (fN es),sC 13 (fN lv),sC 16 (pB 5),sI 17 ((b:Int)-a),sI 55 ((b:Int)-a),sI 56 k] [none,none,none,some (.cells [xI 0,xI 0,.c (.f .nils),.c (.f .nils),.c (.f .nils),xI 0,xI 0]),kK (aV st a b) 0,some (.cells [xI a,xI b,ph (row k F1),ph (row k F2),ph (row k F3),xI 0,xI run])]) (fun k=>k<=b-a) (fun k=>b-a-k) 0 ?_ (by omega) ?_
  ·
   refine WQ ?_ ?_<;>repeat' (first|with_reducible (first|refine KQ ?_|refine ab ?_ ?_|exact True.intro)|refine ax rfl ?_ ?_|exact aE.ah|exact aE.ao|exact aE.al|refine aN.cells ?_ ?_|refine aN.bF ?_ ?_|refine cg.cons ?_ ?_|exact (rfl:known _=_)|exact (rfl:aF _=true)|with_reducible rfl|omega)
   all_goals rfl
  intro k hk;have q1:=aJ k F1;have q2:=aJ k F2;have q3:=aJ k F3;have m1:es.getD (k:Int).toNat 0=E1 k:=(hE2 k (by omega)).1;have m2:=(hE2 k (by omega)).2;have n1:lv.getD (k:Int).toNat 0=E2 k:=(hL2 k (by omega)).1;have n2:=(hL2 k (by omega)).2;by_cases hkn:k<b-a
  ·have m3:es.getD ((k:Int)+1).toNat 0=E1 (k+1):=(hE2 (k+1) (by omega)).1
   have m4:=(hE2 (k+1) (by omega)).2
   repeat' (first|with_reducible (first|refine ab ?_ ?_|exact True.intro|refine DQ ?_|fail)|with_reducible (first|refine ay ?_|refine aD ?_)|((with_reducible apply av);refine aq rfl ?_ ?_;all_goals (intro hbq;(try simp only[bq] at hbq);(try (exfalso;omega))))|refine RQ ?_|((with_reducible apply aL);exact fun _=>⟨rfl,rfl⟩)|((with_reducible apply bh);kernel_rfl)|((with_reducible apply db);rfl)|omega)
   ·
    refine az (k+1) ?_ ((by omega)) (by (try dsimp only);omega);refine WQ ?_ ?_<;>repeat' (first|with_reducible (first|refine KQ ?_|refine ab ?_ ?_|exact True.intro)|refine ax rfl ?_ ?_|exact aE.ah|exact aE.ao|exact aE.al|refine aN.cells ?_ ?_|refine aN.bF ?_ ?_|refine cg.cons ?_ ?_|exact (rfl:known _=_)|exact (rfl:aF _=true)|with_reducible rfl|omega)
    ·rw[de k F1,hN k (by omega),m1];simp[ez,fI]
    ·rw[aJ,aJ]
    ·rw[de k F2,hPa k,m3];simp[ez,fI]
    ·rw[aJ,aJ]
    ·rw[de k F3,hCl k,n1];simp[ez,fI]
    ·rw[aJ,aJ]
  ·have hke:k=b-a:=by omega
   subst hke;have e3:es.getD ((b:Int)-a).toNat 0=E1 (b-a):=by rw[← m1];congr 1;omega
   repeat' (first|with_reducible (first|refine ab ?_ ?_|exact True.intro|refine DQ ?_|fail)|with_reducible (refine ay ?_)|((with_reducible apply av);refine aq rfl ?_ ?_;all_goals (intro hbq;(try simp only[bq] at hbq);(try (exfalso;omega))))|refine RQ ?_|fail)
   all_goals first
    |(rw[e3];omega)
    |(rw[e3,if_pos hbq];rfl)
    |(rw[if_neg (by first|exact hbq|simp)];rfl)
theorem ve {L:bJ} {r:jV} {l sp ac br:Int} (h:eV L r l sp ac br=0):b8 L r l sp ac br=0/\wi L r.st=false:=by
 unfold eV at h;by_cases h1:b8 L r l sp ac br=0
 ·refine ⟨h1,?_⟩
  rw[if_neg (by simpa using h1)] at h;cases e:wi L r.st with
  |false=>rfl
  |true=>rw[e] at h;cases h
 ·rw[if_pos h1] at h;exact absurd h h1
def rm (L:bJ) (st:List bD) (ov l sp ac br a b:Int):Int:=if eV L ⟨st,ov⟩ l sp ac br≠0 then eV L ⟨st,ov⟩ l sp ac br else if a<0\/b<=a\/(st.length:Int)-ov-1<b then 4 else 0
theorem Rh (L:bJ) (hL:bZ L) (st:List bD) (ov:Int) (hl:st.length<=9223372036854775807) (ho: -9223372036854775808<=ov/\ov<=9223372036854775807) (nm:ByteArray) (l sp ac br a b:Int) (h: ¬ rm L st ov l sp ac br a b=0):cd Tryz.prog 63 [bK L,sO st ov,pj nm l sp ac br,.c (xI a),.c (xI b)] [] (.cC [.agg NP,.c (xI (rm L st ov l sp ac br a b))]) []:=by
 have hF:=vb L hL st ov hl ho nm l sp ac br;unfold rm at h⊢
 by_cases hm:eV L ⟨st,ov⟩ l sp ac br=0
 ·have hR:=cJ (eQ (ku (ve hm).1).1)
  have g1:=hR.ov0;have g2:=hR.ov;have g3:=hR.len;have g4:=hR.two;simp only at g1 g2 g3 g4
  have hla:=vc st ov hl (by omega);rw[hm] at hF h⊢
  rw[if_neg (by decide)] at h⊢;have hc:a<0\/b<=a\/(st.length:Int)-ov-1<b:=Classical.byContradiction fun hn=>h (if_neg hn)
  rw[if_pos hc];unfold bK at hF⊢;refine PQ Tryz.func63 ?_;simp only[cu,Nat.zero_add,Nat.reduceAdd]
  repeat' (first|with_reducible (first|refine ab ?_ ?_|exact True.intro|refine DQ ?_|assumption)|((with_reducible apply aC);refine an (hF) rfl ?_)|((with_reducible apply aZ);refine aX ((fun _=>hla)) rfl ?_ ?_)|with_reducible (refine ay ?_)|((with_reducible apply av);refine aq rfl ?_ ?_;all_goals (intro hbq;(try simp only[bq] at hbq);(try (exfalso;omega))))|refine RQ ?_|(intro (hgq:(_:Bool)=true);(try simp only[bq] at hgq))|(intro (hgq:(_:Bool)=false);(try simp only[bq] at hgq))|((with_reducible apply cH);simp only[bq])|(simp only[hgq,bq];done))
  all_goals rfl
 ·rw[if_pos hm]
  unfold bK at hF⊢;refine PQ Tryz.func63 ?_;simp only[cu,Nat.zero_add,Nat.reduceAdd]
  repeat' (first|with_reducible (first|refine ab ?_ ?_|exact True.intro|refine DQ ?_|fail)|((with_reducible apply aC);refine an (hF) rfl ?_)|with_reducible (refine ay ?_)|((with_reducible apply av);refine aq rfl ?_ ?_;all_goals (intro hbq;(try simp only[bq] at hbq);(try (exfalso;omega))))|refine RQ ?_|fail)
  all_goals rfl
theorem Fq (L:bJ) (hL:bZ L) (st:List bD) (ov:Int) (hl:st.length<=9223372036854775807) (ho: -9223372036854775808<=ov/\ov<=9223372036854775807) (nm:ByteArray) (l sp ac br:Int) (a b:Nat) (h:eV L ⟨st,ov⟩ l sp ac br=0) (hab:a<b) (hb:(b:Int)<=st.length-ov-1):cd Tryz.prog 63 [bK L,sO st ov,pj nm l sp ac br,.c (xI a),.c (xI b)] [] (.cC [.agg (Bk L (dV st ov a b) l sp ac br a b),.c (xI 0)]) []:=by
 have hF:=vb L hL st ov hl ho nm l sp ac br;have hf:=(ve h).1;have hR:=cJ (eQ (ku hf).1);have g1:=hR.ov0;have g2:=hR.ov;have g3:=hR.len;have g4:=hR.two;simp only at g1 g2 g3 g4
 have hla:=vc st ov hl (by omega);have hP:=DS L hL st ov nm l sp ac br hf a b hab hb;rw[h] at hF
 unfold Bk at hP⊢;unfold bK at hF hP⊢;refine PQ Tryz.func63 ?_;simp only[cu,Nat.zero_add,Nat.reduceAdd]
 repeat' (first|with_reducible (first|refine ab ?_ ?_|exact True.intro|refine DQ ?_|assumption)|((with_reducible apply aC);first|refine an (hF) rfl ?_|refine an (hP) rfl ?_)|((with_reducible apply aZ);refine aX ((fun _=>hla)) rfl ?_ ?_)|with_reducible (refine ay ?_)|((with_reducible apply av);refine aq rfl ?_ ?_;all_goals (intro hbq;(try simp only[bq] at hbq);(try (exfalso;omega))))|refine RQ ?_|(intro (hgq:(_:Bool)=true);(try simp only[bq] at hgq))|(intro (hgq:(_:Bool)=false);(try simp only[bq] at hgq))|((with_reducible apply cH);simp only[bq])|(simp only[hgq,bq];done))
 all_goals rfl
def SF (L:bJ) (a b:bD):Int:=if ((ij L a b).map rR.pt).getD (-1)<0 then -1 else L.secs.length+((ij L a b).map rR.pt).getD (-1)
theorem DN (L:bJ) (a b:bD) (hV:Valid L) (hj: ∀ k,ij L a b=some k->k.pt<L.pts.length):cd Tryz.prog 81 [bK L,x4 a,x4 b] [] (vI (SF L a b)) []:=by
 have hH:=vy L a hV;have hlen:(oE L a).length<=192:=Nat.le_trans (List.length_filterMap_le _ _) hV.n4;have n2:=hV.n2;have n3:=hV.n3;unfold SF;unfold ij at hj⊢
 generalize oE L a=hs at*;unfold bK at hH⊢;refine FQ Tryz.func81 ?_;simp only[cu,Nat.zero_add,Nat.reduceAdd]
 repeat' (first|with_reducible (first|refine ab ?_ ?_|exact True.intro|refine DQ ?_|fail)|((with_reducible apply aC);refine an (hH) rfl ?_)|with_reducible (first|refine ay ?_|refine aD ?_)|refine RQ ?_|fail)
 clear hH;refine aH (fun i:Nat=>SS [sC 3 (pB 0),sC 5 (pB 2),sC 7 (PE hs),sI 13 hs.length,sI 14 i] [lQ L,none,some (.cells [xI b.sec,xI b.dir])]) (fun i=>i<=hs.length/\ ∀ j,j<i->Cn b (hs.getD j ⟨0,0,0,0⟩)=false) (fun i=>hs.length-i) 0 ?_ ⟨by omega,fun j hj=>by omega⟩ ?_
 ·
  refine WQ ?_ ?_<;>repeat' (first|with_reducible (first|refine KQ ?_|refine ab ?_ ?_|exact True.intro)|refine ax rfl ?_ ?_|exact aE.ah|exact aE.ao|exact aE.al|refine aN.cells ?_ ?_|refine aN.bF ?_ ?_|refine cg.cons ?_ ?_|exact (rfl:known _=_)|exact (rfl:aF _=true)|with_reducible rfl|omega)
 rintro i ⟨hi,hno⟩;by_cases hil:i<hs.length
 ·by_cases ht:Cn b (hs.getD i ⟨0,0,0,0⟩)=true
  ·have hf:=j7 (p:=Cn b) (d:=⟨0,0,0,0⟩) (l:=hs) (i:=i) hil ht hno
   have hb:(hs.getD (i:Int).toNat ⟨0,0,0,0⟩).pt<L.pts.length:=hj _ hf;rw[hf];simp only[Option.map_some,Option.getD_some];have ht2:(hs.getD (i:Int).toNat ⟨0,0,0,0⟩).sec=b.sec/\(hs.getD (i:Int).toNat ⟨0,0,0,0⟩).dir=b.dir:=by
    unfold Cn at ht;simpa using ht
   by_cases hp:(hs.getD (i:Int).toNat ⟨0,0,0,0⟩).pt<0
   ·rw[if_pos (by exact hp)]
    repeat' (first|with_reducible (first|refine ab ?_ ?_|exact True.intro|exact bu.nil _|refine DQ ?_|assumption)|with_reducible (first|refine ay ?_|refine aD ?_)|((with_reducible apply av);refine aq rfl ?_ ?_;all_goals (intro hbq;(try simp only[bq] at hbq);(try (exfalso;omega))))|refine RQ ?_|((with_reducible apply aL);exact fun _=>⟨rfl,rfl⟩)|((with_reducible apply bh);kernel_rfl)|omega)
    all_goals first|rfl|(exfalso;simp_all;done)
   ·rw[if_neg (by exact hp)]
    repeat' (first|with_reducible (first|refine ab ?_ ?_|exact True.intro|exact bu.nil _|refine DQ ?_|assumption)|with_reducible (first|refine ay ?_|refine aD ?_)|((with_reducible apply av);refine aq rfl ?_ ?_;all_goals (intro hbq;(try simp only[bq] at hbq);(try (exfalso;omega))))|refine RQ ?_|((with_reducible apply aL);exact fun _=>⟨rfl,rfl⟩)|((with_reducible apply bh);kernel_rfl)|omega)
    all_goals first|rfl|(exfalso;simp_all;done)
  ·have ht:Cn b (hs.getD i ⟨0,0,0,0⟩)=false:=by simpa using ht
   have ht2: ¬ ((hs.getD (i:Int).toNat ⟨0,0,0,0⟩).sec=b.sec/\(hs.getD (i:Int).toNat ⟨0,0,0,0⟩).dir=b.dir):=by
    unfold Cn at ht;simpa using ht
   repeat' (first|with_reducible (first|refine ab ?_ ?_|exact True.intro|refine DQ ?_|assumption)|with_reducible (first|refine ay ?_|refine aD ?_)|((with_reducible apply av);refine aq rfl ?_ ?_;all_goals (intro hbq;(try simp only[bq] at hbq);(try (exfalso;omega))))|refine RQ ?_|((with_reducible apply aL);exact fun _=>⟨rfl,rfl⟩)|((with_reducible apply bh);kernel_rfl)|omega)
   all_goals first
    |(exfalso;omega)
    |(
     refine az (i+1) ?_ (⟨by omega,bR hno ht⟩) (by (try dsimp only);omega);refine WQ ?_ ?_<;>repeat' (first|with_reducible (first|refine KQ ?_|refine ab ?_ ?_|exact True.intro)|refine ax rfl ?_ ?_|exact aE.ah|exact aE.ao|exact aE.al|refine aN.cells ?_ ?_|refine aN.bF ?_ ?_|refine cg.cons ?_ ?_|exact (rfl:known _=_)|exact (rfl:aF _=true)|with_reducible rfl|omega)
     done)
 ·have hf:=pW (p:=Cn b) (d:=⟨0,0,0,0⟩) (l:=hs) (fun j hj=>hno j (by omega))
  rw[hf]
  repeat' (first|with_reducible (first|refine ab ?_ ?_|exact True.intro|exact bu.nil _|refine DQ ?_|fail)|with_reducible (refine ay ?_)|((with_reducible apply av);refine aq rfl ?_ ?_;all_goals (intro hbq;(try simp only[bq] at hbq);(try (exfalso;omega))))|refine RQ ?_|fail)
  all_goals rfl
def oG (L:bJ) (st:List bD) (i:Nat) (q:Nat):Bool:=decide (L.secs.length<=q)&&iR L st i (q-L.secs.length)
theorem B8 (L:bJ) (st:List bD) (i p:Nat):oG L st i (L.secs.length+p)=iR L st i p:=by
 unfold oG;rw[decide_eq_true (by omega),Bool.true_and,show L.secs.length+p-L.secs.length=p by omega]
theorem vM {L:bJ} {st:List bD} {i:Nat} (h:fM L st i<0) (q:Nat):oG L st (i+1) q=oG L st i q:=by
 unfold oG;rw[iz,decide_eq_false (show ¬ fM L st i=((q-L.secs.length:Nat):Int) by omega),Bool.or_false]
theorem BM (L:bJ) (hL:bZ L) (st:List bD) (ov:Int) (hl:st.length<=9223372036854775807) (ho: -9223372036854775808<=ov/\ov<=9223372036854775807) (nm:ByteArray) (l sp ac br:Int):cd Tryz.prog 76 [bK L,sO st ov,pj nm l sp ac br] [] (vI (eV L ⟨st,ov⟩ l sp ac br)) []:=by
 have hF:=o9 L hL st ov hl ho nm l sp ac br;unfold eV;by_cases h:b8 L ⟨st,ov⟩ l sp ac br=0
 ·have hR:=cJ (eQ (ku h).1)
  have hV:=df hR.lay;have hn:=hR.len;have h2:=hR.two;have h3:=hR.ov0;have hn2:=hV.n2;have hn3:=hV.n3;have hpr: ∀ i,i<st.length-> -1<=fM L st i/\fM L st i<L.pts.length:=fun i hi=>FC hR hi
  have hP: ∀ i,i+1<st.length->cd Tryz.prog 81 [bK L,x4 (st.getD (i:Int).toNat bd),x4 (st.getD ((i:Int)+1).toNat bd)] [] (vI (if fM L st (i+1)<0 then -1 else L.secs.length+fM L st (i+1))) []:=fun i hi=>by
   have hj:=Fk hR (i:=i+1) (by omega) hi;have hp:=DN L (st.getD i bd) (st.getD (i+1) bd) hV (fun k hk=>by
    obtain ⟨k2,e,_,b⟩:=hj;rw[show i+1-1=i by omega] at e;simp only at e;rw[hk] at e;injection e with e;rw[e];exact b)
   unfold SF at hp;have ei:fM L st (i+1)=((ij L (st.getD i bd) (st.getD (i+1) bd)).map rR.pt).getD (-1):=by unfold fM;rw[if_neg (by omega)];rfl
   rw[ei,Int.toNat_natCast,show ((i:Int)+1).toNat=i+1 by omega];exact hp
  simp only at hn h2 h3;rw[h] at hF;rw[h,if_neg (by decide)];unfold bK at hF hP⊢;have z2:fM L st 0<0:=by unfold fM;rw[if_pos rfl];decide
  have z1:kQ L st 0=false:=by unfold kQ;rw[decide_eq_false (by omega),Bool.false_and]
  refine FQ Tryz.func76 ?_;simp only[cu,Nat.zero_add,Nat.reduceAdd]
  repeat' (first|with_reducible (first|refine ab ?_ ?_|exact True.intro|refine DQ ?_|fail)|((with_reducible apply aC);refine an (hF) rfl ?_)|with_reducible (first|refine ay ?_|refine aD ?_)|((with_reducible apply av);refine aq rfl ?_ ?_;all_goals (intro hbq;(try simp only[bq] at hbq);(try (exfalso;omega))))|refine RQ ?_|fail)
  clear hF;refine aH (fun i:Nat=>SS [sC 3 (pB 0),sC 4 (pB 1),sC 8 (pB 3),sI 9 i] [lQ L,kK st ov,none,IX (lB 144 (oG L st (i+1)))]) (fun i=>i+1<=st.length/\ ∀ j,j<i+1->kQ L st j=false) (fun i=>st.length-i) 0 ?_ ⟨by omega,fun j hj=>by rw[show j=0 by omega];exact z1⟩ ?_
  ·
   refine WQ ?_ ?_<;>repeat' (first|with_reducible (first|refine KQ ?_|refine ab ?_ ?_|exact True.intro)|refine ax rfl ?_ ?_|exact aE.ah|exact aE.ao|exact aE.al|refine aN.cells ?_ ?_|refine aN.bF ?_ ?_|refine cg.cons ?_ ?_|exact (rfl:known _=_)|exact (rfl:aF _=true)|with_reducible rfl|omega)
   all_goals first
    |rfl
    |(
     rw[B3];refine vH fun q hq=> ?_
     rw[vM z2];unfold oG iR;rw[List.range_zero,List.any_nil,Bool.and_false])
  rintro i ⟨hi,hno⟩;have hsl:=B1 144 (oG L st (i+1));by_cases hil:i+1<st.length
  ·have hpi:=hpr (i+1) hil
   have hPi:=hP i hil;by_cases h0:0<=fM L st (i+1)
   ·rw[if_neg (by omega)] at hPi
    have hd:=xM h0;have hg2:(lB 144 (oG L st (i+1))).getD ((L.secs.length:Int)+fM L st (i+1)).toNat false=iR L st (i+1) (fM L st (i+1)).toNat:=by
     rw[show ((L.secs.length:Int)+fM L st (i+1)).toNat=L.secs.length+(fM L st (i+1)).toNat by omega,← B8];exact B0 (by omega)
    by_cases hs:iR L st (i+1) (fM L st (i+1)).toNat=true
    ·rw[hs] at hg2 hd
     rw[if_pos (AS hil hd)]
     repeat' (first|with_reducible (first|refine ab ?_ ?_|exact True.intro|exact bu.nil _|refine DQ ?_|assumption)|((with_reducible apply aC);refine an (hPi) rfl ?_)|((with_reducible apply av);refine aq rfl ?_ ?_;all_goals (intro hbq;(try simp only[bq,and_true,true_and,and_false,false_and,or_true,true_or,or_false,false_or,not_true_eq_false,not_false_eq_true,Bool.true_eq_false,Bool.false_eq_true,hg2] at hbq);(try (exfalso;omega))))|with_reducible (first|refine ay ?_|refine aD ?_)|refine RQ ?_|(intro (hgq:(_:Bool)=true);(try simp only[bq] at hgq))|((with_reducible apply aL);exact fun _=>⟨rfl,rfl⟩)|((with_reducible apply bh);kernel_rfl)|((with_reducible apply cH);simp only[bq])|omega)
     all_goals rfl
    ·have hs:iR L st (i+1) (fM L st (i+1)).toNat=false:=by simpa using hs
     rw[hs] at hg2 hd
     repeat' (first|with_reducible (first|refine ab ?_ ?_|exact True.intro|refine DQ ?_|assumption)|((with_reducible apply aC);refine an (hPi) rfl ?_)|((with_reducible apply av);refine aq rfl ?_ ?_;all_goals (intro hbq;(try simp only[bq,and_true,true_and,and_false,false_and,or_true,true_or,or_false,false_or,not_true_eq_false,not_false_eq_true,Bool.true_eq_false,Bool.false_eq_true,hg2] at hbq);(try (exfalso;omega))))|with_reducible (first|refine ay ?_|refine aD ?_)|refine RQ ?_|(intro (hgq:(_:Bool)=true);(try simp only[bq] at hgq))|((with_reducible apply aL);exact fun _=>⟨rfl,rfl⟩)|((with_reducible apply bh);kernel_rfl)|((with_reducible apply cH);simp only[bq])|omega)
     ·rfl
     ·
      refine az (i+1) ?_ (⟨by omega,bR hno hd⟩) (by (try dsimp only);omega);refine WQ ?_ ?_<;>repeat' (first|with_reducible (first|refine KQ ?_|refine ab ?_ ?_|exact True.intro)|refine ax rfl ?_ ?_|exact aE.ah|exact aE.ao|exact aE.al|refine aN.cells ?_ ?_|refine aN.bF ?_ ?_|refine cg.cons ?_ ?_|exact (rfl:known _=_)|exact (rfl:aF _=true)|with_reducible rfl|omega)
      all_goals (
       rw[show ((L.secs.length:Int)+fM L st (i+1)).toNat=L.secs.length+(fM L st (i+1)).toNat by omega];refine B4 (i:=L.secs.length+(fM L st (i+1)).toNat) ?_ fun q hq hne=> ?_
       ·rw[B8,iz,decide_eq_true (show fM L st (i+1)=((fM L st (i+1)).toNat:Int) by omega),Bool.or_true]
       ·unfold oG
        by_cases hlq:L.secs.length<=q
        ·rw[iz,decide_eq_false (show ¬ fM L st (i+1)=((q-L.secs.length:Nat):Int) by omega),Bool.or_false]
        ·rw[decide_eq_false hlq,Bool.false_and,Bool.false_and])
   ·rw[if_pos (by omega)] at hPi
    have hd:kQ L st (i+1)=false:=by unfold kQ;rw[decide_eq_false h0,Bool.false_and]
    repeat' (first|with_reducible (first|refine ab ?_ ?_|exact True.intro|refine DQ ?_|assumption)|((with_reducible apply aC);refine an (hPi) rfl ?_)|with_reducible (first|refine ay ?_|refine aD ?_)|((with_reducible apply av);refine aq rfl ?_ ?_;all_goals (intro hbq;(try simp only[bq] at hbq);(try (exfalso;omega))))|refine RQ ?_|(intro (hgq:(_:Bool)=true);(try simp only[bq] at hgq))|((with_reducible apply aL);exact fun _=>⟨rfl,rfl⟩)|((with_reducible apply bh);kernel_rfl)|((with_reducible apply cH);simp only[bq])|omega)
    ·
     refine az (i+1) ?_ (⟨by omega,bR hno hd⟩) (by (try dsimp only);omega);refine WQ ?_ ?_<;>repeat' (first|with_reducible (first|refine KQ ?_|refine ab ?_ ?_|exact True.intro)|refine ax rfl ?_ ?_|exact aE.ah|exact aE.ao|exact aE.al|refine aN.cells ?_ ?_|refine aN.bF ?_ ?_|refine cg.cons ?_ ?_|exact (rfl:known _=_)|exact (rfl:aF _=true)|with_reducible rfl|omega)
     all_goals (
      refine vH fun q hq=> ?_
      exact (vM (i:=i+1) (by omega) q).symm)
  ·have hie:st.length=i+1:=by omega
   rw[EV (fun j hj=>hno j (by omega)),if_neg (by decide)]
   repeat' (first|with_reducible (first|refine ab ?_ ?_|exact True.intro|exact bu.nil _|refine DQ ?_|fail)|with_reducible (refine ay ?_)|((with_reducible apply av);refine aq rfl ?_ ?_;all_goals (intro hbq;(try simp only[bq] at hbq);(try (exfalso;omega))))|refine RQ ?_|omega)
   all_goals rfl
 ·rw[if_pos h]
  unfold bK at hF⊢;refine FQ Tryz.func76 ?_;simp only[cu,Nat.zero_add,Nat.reduceAdd]
  repeat' (first|with_reducible (first|refine ab ?_ ?_|exact True.intro|exact bu.nil _|refine DQ ?_|fail)|((with_reducible apply aC);refine an (hF) rfl ?_)|with_reducible (refine ay ?_)|((with_reducible apply av);refine aq rfl ?_ ?_;all_goals (intro hbq;(try simp only[bq] at hbq);(try (exfalso;omega))))|refine RQ ?_|fail)
  all_goals rfl
theorem Kf (st:List bD) (ov:Int) (h24:st.length<=24) (h0:0<=ov/\ov<=st.length) (a b:Nat) (hab:a<b) (hb:(b:Int)<=st.length-ov-1):cd Tryz.prog 78 [sO st ov,.c (xI a),.c (xI b)] [] (sO (dV st ov a b).st (dV st ov a b).ov) []:=by
 have hla:=qq st ov (by omega) (by omega);unfold dV;by_cases e:(b:Int)=st.length-ov-1
 ·rw[if_pos e]
  have hd:(st.drop (a:Int).toNat).length<=24:=by rw[List.length_drop];omega
  refine PQ Tryz.func78 ?_;simp only[cu,Nat.zero_add,Nat.reduceAdd]
  repeat' (first|with_reducible (first|exact BQ|refine ab ?_ ?_|exact True.intro|refine DQ ?_|fail)|((with_reducible apply aC);refine an (hla) rfl ?_)|with_reducible (refine ay ?_)|((with_reducible apply av);refine aq rfl ?_ ?_;all_goals (intro hbq;(try simp only[bq] at hbq);(try (exfalso;omega))))|refine RQ ?_|(intro _;exact rfl)|omega)
  all_goals first|omega|rfl
 ·rw[if_neg e]
  have hd:((st.drop (a:Int).toNat).take ((b:Int)+1-a).toNat).length<=24:=by rw[List.length_take,List.length_drop];omega
  have he:((b:Int)+1-a).toNat=b+1-a:=by omega
  refine PQ Tryz.func78 ?_;simp only[cu,Nat.zero_add,Nat.reduceAdd]
  repeat' (first|with_reducible (first|refine ab ?_ ?_|exact True.intro|refine DQ ?_|fail)|((with_reducible apply aC);refine an (hla) rfl ?_)|with_reducible (refine ay ?_)|((with_reducible apply av);refine aq rfl ?_ ?_;all_goals (intro hbq;(try simp only[bq] at hbq);(try (exfalso;omega))))|refine RQ ?_|(intro _;exact rfl)|omega)
  all_goals first|omega|(rw[he];rfl)
theorem Qf (L:bJ) (hL:bZ L) (st:List bD) (ov:Int) (hl:st.length<=9223372036854775807) (ho: -9223372036854775808<=ov/\ov<=9223372036854775807) (nm:ByteArray) (l sp ac br a b:Int) (h: ¬ rm L st ov l sp ac br a b=0):cd Tryz.prog 43 [bK L,sO st ov,pj nm l sp ac br,.c (xI a),.c (xI b)] [] (.cC [.agg NP,.c (xI (rm L st ov l sp ac br a b))]) []:=by
 have hF:=BM L hL st ov hl ho nm l sp ac br;unfold rm at h⊢
 by_cases hm:eV L ⟨st,ov⟩ l sp ac br=0
 ·have hR:=cJ (eQ (ku (ve hm).1).1)
  have g1:=hR.ov0;have g2:=hR.ov;have g3:=hR.len;have g4:=hR.two;simp only at g1 g2 g3 g4
  have hla:=qq st ov hl (by omega);rw[hm] at hF h⊢
  rw[if_neg (by decide)] at h⊢;have hc:a<0\/b<=a\/(st.length:Int)-ov-1<b:=Classical.byContradiction fun hn=>h (if_neg hn)
  rw[if_pos hc];unfold bK at hF⊢;refine PQ Tryz.func43 ?_;simp only[cu,Nat.zero_add,Nat.reduceAdd]
  repeat' (first|with_reducible (first|refine ab ?_ ?_|exact True.intro|refine DQ ?_|assumption)|((with_reducible apply aC);refine an (hF) rfl ?_)|((with_reducible apply aZ);refine aX ((fun _=>hla)) rfl ?_ ?_)|with_reducible (refine ay ?_)|((with_reducible apply av);refine aq rfl ?_ ?_;all_goals (intro hbq;(try simp only[bq] at hbq);(try (exfalso;omega))))|refine RQ ?_|(intro (hgq:(_:Bool)=true);(try simp only[bq] at hgq))|(intro (hgq:(_:Bool)=false);(try simp only[bq] at hgq))|((with_reducible apply cH);simp only[bq])|(simp only[hgq,bq];done))
  all_goals rfl
 ·rw[if_pos hm]
  unfold bK at hF⊢;refine PQ Tryz.func43 ?_;simp only[cu,Nat.zero_add,Nat.reduceAdd]
  repeat' (first|with_reducible (first|refine ab ?_ ?_|exact True.intro|refine DQ ?_|fail)|((with_reducible apply aC);refine an (hF) rfl ?_)|with_reducible (refine ay ?_)|((with_reducible apply av);refine aq rfl ?_ ?_;all_goals (intro hbq;(try simp only[bq] at hbq);(try (exfalso;omega))))|refine RQ ?_|fail)
  all_goals rfl
theorem Ke (L:bJ) (hL:bZ L) (st:List bD) (ov:Int) (hl:st.length<=9223372036854775807) (ho: -9223372036854775808<=ov/\ov<=9223372036854775807) (nm:ByteArray) (l sp ac br:Int) (a b:Nat) (hm:eV L ⟨st,ov⟩ l sp ac br=0) (hab:a<b) (hb:(b:Int)<=st.length-ov-1):cd Tryz.prog 43 [bK L,sO st ov,pj nm l sp ac br,.c (xI a),.c (xI b)] [] (.cC [.agg (Bk L (dV st ov a b) l sp ac br a b),.c (xI 0)]) []:=by
 have hF:=BM L hL st ov hl ho nm l sp ac br;have h:=(ve hm).1;have hR:=cJ (eQ (ku h).1);have g1:=hR.ov0;have g2:=hR.ov;have g3:=hR.len;simp only at g1 g2 g3
 have hf:=rC h hab hb;have hpl:=xz h hab hb;have hla:=qq st ov (by omega) (by omega);have hPt:=Kf st ov (by omega) (by omega) a b hab hb;have hps:(dV st ov a b).st.length<=24:=by unfold dV;split<;>simp only[List.length_take,List.length_drop]<;>omega
 have hpo:(dV st ov a b).ov=if (b:Int)=st.length-ov-1 then ov else 0:=by unfold dV;split<;>rfl
 have hov: ∀ n,J3 L (dV st ov a b) l sp ac br n=if (b:Int)=st.length-ov-1/\0<ov then jd L (dV st ov a b) l sp ac br n / 1000-16 else 0:=fun n=>by
  unfold J3;rw[hpo];by_cases e:(b:Int)=st.length-ov-1
  ·rw[if_pos e]
   by_cases e2:0<ov
   ·rw[if_pos e2,if_pos ⟨e,e2⟩]
   ·rw[if_neg e2,if_neg (fun h=>e2 h.2)]
  ·rw[if_neg e,if_neg (by decide),if_neg (fun h=>e h.1)]
 rw[hm] at hF;clear hR;unfold Bk;rw[hov];clear hov;have hpb: -9223372036854775808<=(dV st ov a b).ov/\(dV st ov a b).ov<=9223372036854775807:=by rw[hpo];split<;>omega
 generalize dV st ov a b=pr at*;obtain ⟨ps,po⟩:=pr;simp only at hPt hps hpb;have hT:=DM L hL ps po (by omega) hpb nm l sp ac br hf;have hRd:=oc hf;have hE1:=aJ (bN ⟨ps,po⟩).length fun k=>eY L ⟨ps,po⟩ l sp ac br (aT L (bN ⟨ps,po⟩) (k-1))
 have hL1:=aJ (bN ⟨ps,po⟩).length (jf L ⟨ps,po⟩ l sp ac br);change (q7 L ⟨ps,po⟩ l sp ac br (bN ⟨ps,po⟩).length).length=_ at hE1
 change (rl L ⟨ps,po⟩ l sp ac br (bN ⟨ps,po⟩).length).length=_ at hL1;have hE2: ∀ k,k<b-a+1->(q7 L ⟨ps,po⟩ l sp ac br (bN ⟨ps,po⟩).length).getD k 0=jd L ⟨ps,po⟩ l sp ac br k/\0<=jd L ⟨ps,po⟩ l sp ac br k/\jd L ⟨ps,po⟩ l sp ac br k<=80000000:=fun k hk=>⟨ct (by omega),(gX hRd (by omega)).1,(gX hRd (by omega)).2.1⟩
 have hL2: ∀ k,k<b-a+1->(rl L ⟨ps,po⟩ l sp ac br (bN ⟨ps,po⟩).length).getD k 0=jf L ⟨ps,po⟩ l sp ac br k/\0<=jf L ⟨ps,po⟩ l sp ac br k/\jf L ⟨ps,po⟩ l sp ac br k<=80000000:=fun k hk=>⟨ct (by omega),(gX hRd (by omega)).2.2⟩
 have hN: ∀ k,k<b-a+1->sx L ⟨ps,po⟩ l sp ac br k=(jd L ⟨ps,po⟩ l sp ac br k) / 1000-16:=fun k hk=>rfl
 have hPa: ∀ k,sy L ⟨ps,po⟩ l sp ac br k=(jd L ⟨ps,po⟩ l sp ac br (k+1)) / 1000:=fun k=>rfl
 have hCl: ∀ k,AP L ⟨ps,po⟩ l sp ac br k=(jf L ⟨ps,po⟩ l sp ac br k+999) / 1000+4:=fun k=>rfl
 clear hRd hf;generalize sx L ⟨ps,po⟩ l sp ac br=F1 at*
 generalize sy L ⟨ps,po⟩ l sp ac br=F2 at*;generalize AP L ⟨ps,po⟩ l sp ac br=F3 at*;generalize jd L ⟨ps,po⟩ l sp ac br=E1 at*;generalize jf L ⟨ps,po⟩ l sp ac br=E2 at*;generalize q7 L ⟨ps,po⟩ l sp ac br (bN ⟨ps,po⟩).length=es at*;generalize rl L ⟨ps,po⟩ l sp ac br (bN ⟨ps,po⟩).length=lv at*;generalize lC L ⟨ps,po⟩ l sp ac br=run at*;have hE1:es.length=b-a+1:=hE1.trans hpl;have hL1:lv.length=b-a+1:=hL1.trans hpl;clear hpl hpo;unfold bK at hF hT⊢;refine PQ Tryz.func43 ?_;simp only[cu,Nat.zero_add,Nat.reduceAdd]
 repeat' (first|with_reducible (first|refine ab ?_ ?_|exact True.intro|refine DQ ?_|assumption)|((with_reducible apply aC);first|refine an (hF) rfl ?_|refine an (hPt) rfl ?_|refine an (hT) rfl ?_)|((with_reducible apply aZ);refine aX ((fun _=>hla)) rfl ?_ ?_)|with_reducible (first|refine ay ?_|refine aD ?_)|((with_reducible apply av);refine aq rfl ?_ ?_;all_goals (intro hbq;(try simp only[bq] at hbq);(try (exfalso;omega))))|refine RQ ?_|(intro (hgq:(_:Bool)=true);(try simp only[bq] at hgq))|(intro (hgq:(_:Bool)=false);(try simp only[bq] at hgq))|((with_reducible apply bh);kernel_rfl)|((with_reducible apply cH);simp only[bq])|(simp only[hgq,bq];done)|omega)
 clear hF hT hPt;refine aH (fun k:Nat=>SS [sI 4 b,sC 6 (pB 1),sC 10 (pB 3),sC 13 (fN es),sC 14 (fN lv),sC 17 (pB 4),sI 18 ((b:Int)-a),sI 19 k] [none,kK st ov,none,some (.cells [xI 0,xI 0,.c (.f .nils),.c (.f .nils),.c (.f .nils),xI 0,xI 0]),some (.cells [xI a,xI b,ph (row k F1),ph (row k F2),ph (row k F3),xI 0,xI run])]) (fun k=>k<=b-a) (fun k=>b-a-k) 0 ?_ (by omega) ?_
 ·
  refine WQ ?_ ?_<;>repeat' (first|with_reducible (first|refine KQ ?_|refine ab ?_ ?_|exact True.intro)|refine ax rfl ?_ ?_|exact aE.ah|exact aE.ao|exact aE.al|refine aN.cells ?_ ?_|refine aN.bF ?_ ?_|refine cg.cons ?_ ?_|exact (rfl:known _=_)|exact (rfl:aF _=true)|with_reducible rfl|omega)
  all_goals rfl
 intro k hk;have q1:=aJ k F1;have q2:=aJ k F2;have q3:=aJ k F3;have m1:es.getD (k:Int).toNat 0=E1 k:=(hE2 k (by omega)).1;have m2:=(hE2 k (by omega)).2;have n1:lv.getD (k:Int).toNat 0=E2 k:=(hL2 k (by omega)).1;have n2:=(hL2 k (by omega)).2;by_cases hkn:k<b-a
 ·have m3:es.getD ((k:Int)+1).toNat 0=E1 (k+1):=(hE2 (k+1) (by omega)).1
  have m4:=(hE2 (k+1) (by omega)).2
  repeat' (first|with_reducible (first|refine ab ?_ ?_|exact True.intro|refine DQ ?_|fail)|with_reducible (first|refine ay ?_|refine aD ?_)|((with_reducible apply av);refine aq rfl ?_ ?_;all_goals (intro hbq;(try simp only[bq] at hbq);(try (exfalso;omega))))|refine RQ ?_|((with_reducible apply aL);exact fun _=>⟨rfl,rfl⟩)|((with_reducible apply bh);kernel_rfl)|((with_reducible apply db);rfl)|omega)
  ·
   refine az (k+1) ?_ ((by omega)) (by (try dsimp only);omega);refine WQ ?_ ?_<;>repeat' (first|with_reducible (first|refine KQ ?_|refine ab ?_ ?_|exact True.intro)|refine ax rfl ?_ ?_|exact aE.ah|exact aE.ao|exact aE.al|refine aN.cells ?_ ?_|refine aN.bF ?_ ?_|refine cg.cons ?_ ?_|exact (rfl:known _=_)|exact (rfl:aF _=true)|with_reducible rfl|omega)
   ·rw[de k F1,hN k (by omega),m1];simp[ez,fI]
   ·rw[aJ,aJ]
   ·rw[de k F2,hPa k,m3];simp[ez,fI]
   ·rw[aJ,aJ]
   ·rw[de k F3,hCl k,n1];simp[ez,fI]
   ·rw[aJ,aJ]
 ·have hke:k=b-a:=by omega
  subst hke;have e3:es.getD ((b:Int)-a).toNat 0=E1 (b-a):=by rw[← m1];congr 1;omega
  by_cases e:(b:Int)=st.length-ov-1/\0<ov
  ·rw[if_pos e]
   repeat' (first|with_reducible (first|exact VQ|refine ab ?_ ?_|exact True.intro|refine DQ ?_|assumption)|((with_reducible apply aC);refine an (hla) rfl ?_)|with_reducible (refine ay ?_)|((with_reducible apply av);refine aq rfl ?_ ?_;all_goals (intro hbq;(try simp only[bq] at hbq);(try (exfalso;omega))))|refine RQ ?_|(intro (hgq:(_:Bool)=true);(try simp only[bq] at hgq))|((with_reducible apply cH);simp only[bq])|omega)
   all_goals first
    |(rw[e3];omega)
    |(rw[e3];rfl)
  ·rw[if_neg e]
   repeat' (first|with_reducible (first|refine ab ?_ ?_|exact True.intro|refine DQ ?_|assumption)|((with_reducible apply aC);refine an (hla) rfl ?_)|with_reducible (refine ay ?_)|((with_reducible apply av);refine aq rfl ?_ ?_;all_goals (intro hbq;(try simp only[bq] at hbq);(try (exfalso;omega))))|refine RQ ?_|(intro (hgq:(_:Bool)=true);(try simp only[bq] at hgq))|((with_reducible apply cH);simp only[bq]))
   all_goals first
    |rfl
    |(exfalso;omega)
theorem vk (s:bD):cd Tryz.prog 190 [x4 s] [] (vI (kx s.dir)) []:=by
 unfold kx;refine FQ Tryz.func190 ?_;simp only[cu,Nat.zero_add,Nat.reduceAdd]
 repeat' (first|with_reducible (first|refine ab ?_ ?_|exact True.intro|exact bu.nil _)|((with_reducible apply bH);intro hbq;(try simp only[bq] at hbq);(try (exfalso;omega)))|refine RQ ?_|fail)
 ·rw[if_pos hbq]
  repeat' (first|with_reducible (first|refine KQ ?_|exact True.intro)|refine mB.c ?_)
 ·rw[if_neg hbq]
  repeat' (first|with_reducible (first|refine KQ ?_|exact True.intro)|refine mB.c ?_)
def JA (s t:bD) (k:dF):Bool:=
 decide (((k.a=s.sec/\k.ae=kx s.dir)/\k.b=t.sec)/\ ¬ k.be=kx t.dir)||decide (((k.b=s.sec/\k.be=kx s.dir)/\k.a=t.sec)/\ ¬ k.ae=kx t.dir)
def Pj:dF:=⟨0,0,0,0,-1,0⟩
def oZ (L:bJ) (s t:bD):dF:=(L.lnks.find? (JA s t)).getD Pj
theorem AA (L:bJ) (s t:bD) (hlen:L.lnks.length<=4611686018427387904):cd Tryz.prog 189 [bK L,x4 s,x4 t] [] (.agg (tb (oZ L s t))) []:=by
 have c1:=vk s;have c2:=vk t;unfold bK;refine PQ Tryz.func189 ?_;simp only[cu,Nat.zero_add,Nat.reduceAdd]
 repeat' (first|with_reducible (first|refine ab ?_ ?_|exact True.intro)|refine RQ ?_|fail)
 refine aH (fun i:Nat=>SS [sC 4 (pB 1),sC 5 (pB 2),sC 6 (pB 3),sC 12 (kC L.lnks),sI 13 L.lnks.length,sI 14 i] [none,some (.cells [xI s.sec,xI s.dir]),some (.cells [xI t.sec,xI t.dir]),some (.cells [xI 0,xI 0,xI 0,xI 0,xI 0,xI 0])]) (fun i=>i<=L.lnks.length/\ ∀ j,j<i->JA s t (L.lnks.getD j a9)=false) (fun i=>L.lnks.length-i) 0 ?_ ⟨by omega,fun j hj=>by omega⟩ ?_
 ·
  refine WQ ?_ ?_<;>repeat' (first|with_reducible (first|refine KQ ?_|refine ab ?_ ?_|exact True.intro)|refine ax rfl ?_ ?_|exact (rfl:known _=_)|omega)
 ·intro i hi
  obtain ⟨hi,hno⟩:=hi
  repeat' (first|with_reducible (first|exact BQ|exact VQ|refine ab ?_ ?_|exact True.intro|refine DQ ?_|assumption)|((with_reducible apply aZ);refine aX ((fun _=>c1)) rfl ?_ ?_)|((with_reducible apply aZ);refine aX ((fun _=>c2)) rfl ?_ ?_)|((with_reducible apply bH);intro hbq;(try simp only[bq] at hbq);(try (exfalso;omega)))|refine RQ ?_|(intro (hgq:(_:Bool)=true);(try simp only[bq] at hgq))|(intro (hgq:(_:Bool)=false);(try simp only[bq] at hgq))|((with_reducible apply cH);simp only[bq])|(simp only[hgq,bq];done)|omega)
  ·have hf:=j7 (p:=JA s t) (d:=a9) (l:=L.lnks) (i:=i) (by omega) (by unfold JA;simp only[Bool.or_eq_true,decide_eq_true_eq];exact hbq) hno
   unfold oZ;rw[hf];rfl
  ·
   refine az (i+1) ?_ (⟨by omega,bR hno (by unfold JA;simp only[Bool.or_eq_false_iff,decide_eq_false_iff_not,Classical.not_and_iff_not_or_not,Classical.not_not];exact hbq)⟩) (by (try dsimp only);omega);refine WQ ?_ ?_<;>repeat' (first|with_reducible (first|refine KQ ?_|refine ab ?_ ?_|exact True.intro)|refine ax rfl ?_ ?_|exact (rfl:known _=_)|omega)
  ·have hf:=pW (p:=JA s t) (d:=a9) (l:=L.lnks) (fun j hj=>hno j (by omega))
   unfold oZ;rw[hf];rfl
theorem Mq {L:bJ} (hv:bB L=0) {s t:bD} (hs:s.dir=0\/s.dir=1) (ht:t.dir=0\/t.dir=1) {k:dF} (hk:k∈L.lnks):JA s t k=nK s t k:=by
 obtain ⟨l1,l2,l3,l4,l5,l6,l7,l8,_⟩:=gQ ((df hv).v4 k hk);have e: ∀ x:Int,0<=x->x<=1->(¬ x=kx t.dir↔x=kx (rF t.dir)):=fun x h0 h1=>by
  unfold kx rF;rcases ht with h|h<;>rw[h]<;>simp<;>omega
 unfold JA nK;have h1:=e k.be l7 l8;have h2:=e k.ae l5 l6;rw[Bool.eq_iff_iff];simp only[Bool.or_eq_true,decide_eq_true_eq,h1,h2];constructor
 ·rintro (⟨⟨⟨a,b⟩,c⟩,d⟩|⟨⟨⟨a,b⟩,c⟩,d⟩)
  ·exact .inl ⟨⟨a,b⟩,c,d⟩
  ·exact .inr ⟨⟨c,d⟩,a,b⟩
 ·rintro (⟨⟨a,b⟩,c,d⟩|⟨⟨a,b⟩,c,d⟩)
  ·exact .inl ⟨⟨⟨a,b⟩,c⟩,d⟩
  ·exact .inr ⟨⟨⟨c,d⟩,a⟩,b⟩
theorem yu {fn:Func} {r:SV} {H':SH} {e:bI} {l:SL} {H:SH} {ys:List ST} (hy:MW lH l H fn.results.toList e=some ys) (hp:(ql ys).den.aQ=r.den) (hH:bu H H'):Gc Tryz.prog fn r.den (aR H') e (SS l H):=by
 refine ⟨(ql ys).den,?_,hp⟩;obtain ⟨h1,rfl|rfl⟩:=FF hy
 ·exact Ey gA trivial rfl h1 rfl hH
 ·exact Ey gA trivial rfl h1 rfl hH
theorem gJ {fn:Func} {γ:Type} {I:γ->Prop} {rs:γ->SV} {Hs:γ->SH} {e:bI} {l:SL} {H:SH} {ys:List ST} (hy:MW lH l H fn.results.toList e=some ys) (x:γ) (hx:I x) (hp:(ql ys).den.aQ=(rs x).den) (hH:bu H (Hs x)):Ip Tryz.prog fn I rs Hs e (SS l H):=⟨x,hx,yu hy hp hH⟩
theorem LA {ops:Array Oper} {rest:List Oper} {l:SL} {H:SH} {R:Rg} (d:Nat) (v:SE) (hv:(SS l H).sl d=v.den) (h:WR Tryz.prog ops rest (SS ((d,v)::l) H) R):WR Tryz.prog ops rest (SS l H) R:=by
 have e:SS ((d,v)::l) H=SS l H:=by
  rw[← qQ];unfold St.put;simp only;show St.mk _ _=St.mk _ _
  congr 1;funext i;show dJ (SS l H).sl d v.den i=(SS l H).sl i
  unfold dJ;split
  ·rename_i hi
   rw[hi,hv]
  ·rfl
 rwa [e] at h
structure Cb where
 se:List Int
 po:List Int
 pts:List ByteArray
 secs:List eP
 lnks:List dF
 st:List bD
 es:List (List Int×Int)
def QO:Cb:=⟨[],[],[],[],[],[],[]⟩
def jC (L:bJ) (st:List bD) (b:Cb) (i:Nat):Cb:=
 let s:=st.getD i bd;let sc:=L.secs.getD s.sec.toNat cD;let secs:=b.secs++[⟨sc.nm,sc.len,sc.lim,sc.grd,-1⟩];let ss:=b.st++[⟨(i:Int),s.dir⟩];let se:=b.se++[s.sec]
 if i=0 then { b with se:=se,po:=b.po++[-1],secs:=secs,st:=ss } else
  let p:=st.getD (i-1) bd;let u:=oZ L p s;let k:dF:=⟨(i:Int)-1,kx p.dir,i,1-kx s.dir,-1,0⟩
  if u.pt<0 then { b with se:=se,po:=b.po++[-1],secs:=secs,st:=ss,lnks:=b.lnks++[k] } else
   let es:=match bP b.es [u.pt] with
    |some _=>b.es
    |none=>Ct b.es [u.pt] b.pts.length
   let pts:=match bP b.es [u.pt] with
    |some _=>b.pts
    |none=>b.pts++[L.pts.getD u.pt.toNat ⟨#[]⟩]
   { b with se:=se,po:=b.po++[(L.secs.length:Int)+u.pt],secs:=secs,st:=ss,lnks:=b.lnks++[{ k with pt:=(bP es [u.pt]).getD 0,ps:=u.ps }],es:=es,pts:=pts }
def mF (L:bJ) (st:List bD):Nat->Cb
 |0=>QO
 |i+1=>jC L st (mF L st i) i
def kN (L:bJ) (st:List bD) (ov:Int):oq:=
 let b:=mF L st st.length
 ⟨b.se,b.po,st.length-ov-1,⟨[],b.pts,b.secs,b.lnks⟩,b.st,ov⟩
structure Stop (p:Prop):Prop where
 out:p
theorem bQ {P:Program} {D:Array Oper->St->(St->Prop)->Prop} {n0 n:Nat} {ops:Array Oper} {b:Bool} {s:St} {K:bI->St->Prop} (h:Stop (W P D n0 (.region n ops b) s K)):W P D n0 (.region n ops b) s K:=h.out
theorem yI (L:bJ) (st:List bD) (i:Nat):(mF L st i).se.length=i/\(mF L st i).po.length=i/\(mF L st i).secs.length=i/\(mF L st i).st.length=i/\(mF L st i).lnks.length<=i/\(mF L st i).pts.length<=i:=by
 induction i with
 |zero=>simp[mF,QO]
 |succ i ih=>
  obtain ⟨h1,h2,h3,h4,h5,h6⟩:=ih;unfold mF jC;dsimp only;split
  ·simp;omega
  ·split
   ·simp;omega
   ·cases bP (mF L st i).es [(oZ L (st.getD (i-1) bd) (st.getD i bd)).pt]<;>simp<;>omega
theorem N2 {L:bJ} {r:jV} (h:mN L r) {i:Nat} (hi:i<r.st.length):(r.st.getD i bd).ok L=true:=by
 exact dY h.ok hi
theorem pO (L:bJ) (st:List bD) (b:Cb) {i:Nat} (h:i=0):{ b with se:=b.se++[(st.getD i bd).sec],po:=b.po++[-1],secs:=b.secs++[⟨(L.secs.getD (st.getD i bd).sec.toNat cD).nm,(L.secs.getD (st.getD i bd).sec.toNat cD).len,(L.secs.getD (st.getD i bd).sec.toNat cD).lim,(L.secs.getD (st.getD i bd).sec.toNat cD).grd,-1⟩],st:=b.st++[⟨(i:Int),(st.getD i bd).dir⟩] }=jC L st b i:=by
 unfold jC;rw[if_pos h]
theorem pP (L:bJ) (st:List bD) (b:Cb) {i:Nat} (h:i≠0):jC L st b i=
  if (oZ L (st.getD (i-1) bd) (st.getD i bd)).pt<0 then { b with se:=b.se++[(st.getD i bd).sec],po:=b.po++[-1],secs:=b.secs++[⟨(L.secs.getD (st.getD i bd).sec.toNat cD).nm,(L.secs.getD (st.getD i bd).sec.toNat cD).len,(L.secs.getD (st.getD i bd).sec.toNat cD).lim,(L.secs.getD (st.getD i bd).sec.toNat cD).grd,-1⟩],st:=b.st++[⟨(i:Int),(st.getD i bd).dir⟩],lnks:=b.lnks++[⟨(i:Int)-1,kx (st.getD (i-1) bd).dir,i,1-kx (st.getD i bd).dir,-1,0⟩] } else
  { b with se:=b.se++[(st.getD i bd).sec],po:=b.po++[(L.secs.length:Int)+(oZ L (st.getD (i-1) bd) (st.getD i bd)).pt],secs:=b.secs++[⟨(L.secs.getD (st.getD i bd).sec.toNat cD).nm,(L.secs.getD (st.getD i bd).sec.toNat cD).len,(L.secs.getD (st.getD i bd).sec.toNat cD).lim,(L.secs.getD (st.getD i bd).sec.toNat cD).grd,-1⟩],st:=b.st++[⟨(i:Int),(st.getD i bd).dir⟩],
           es:=match bP b.es [(oZ L (st.getD (i-1) bd) (st.getD i bd)).pt] with
             |some _=>b.es
             |none=>Ct b.es [(oZ L (st.getD (i-1) bd) (st.getD i bd)).pt] b.pts.length,
           pts:=match bP b.es [(oZ L (st.getD (i-1) bd) (st.getD i bd)).pt] with
             |some _=>b.pts
             |none=>b.pts++[L.pts.getD (oZ L (st.getD (i-1) bd) (st.getD i bd)).pt.toNat ⟨#[]⟩],
           lnks:=b.lnks++[⟨(i:Int)-1,kx (st.getD (i-1) bd).dir,i,1-kx (st.getD i bd).dir,(bP (match bP b.es [(oZ L (st.getD (i-1) bd) (st.getD i bd)).pt] with
             |some _=>b.es
             |none=>Ct b.es [(oZ L (st.getD (i-1) bd) (st.getD i bd)).pt] b.pts.length) [(oZ L (st.getD (i-1) bd) (st.getD i bd)).pt]).getD 0,(oZ L (st.getD (i-1) bd) (st.getD i bd)).ps⟩] }:=by
  rw[jC,if_neg h]
theorem JB {L:bJ} (hV:Valid L) (s t:bD):(oZ L s t).pt<L.pts.length:=by
 unfold oZ;cases h:L.lnks.find? (JA s t) with
 |none=>simp[Pj];omega
 |some k=>
  have:=(gQ (hV.v4 k (List.mem_of_find?_eq_some h)));simp only[Option.getD_some];omega
theorem L0 (L:bJ) (st:List bD) (i:Nat):FA 1 (mF L st i).es:=by
 induction i with
 |zero=>exact zt
 |succ i ih=>
  unfold mF jC;dsimp only;split
  ·exact ih
  ·split
   ·exact ih
   ·cases bP (mF L st i).es [(oZ L (st.getD (i-1) bd) (st.getD i bd)).pt]
    ·exact vn ih rfl
    ·exact ih
theorem zm (L:bJ) (hL:bZ L) (st:List bD) (ov:Int) (h:cw L ⟨st,ov⟩=0):cd Tryz.prog 146 [bK L,sO st ov] [] (.agg (Nn (kN L st ov))) []:=by
 have hr:=cJ h;have hlen:=hr.len;have g1:=hr.ov0;have g2:=hr.ov;have g3:=hr.two;have hV:=df hr.lay;simp only at hlen g1 g2 g3
 have l1:=hV.n4;have l2:=hV.n3;have l4:=hV.n2;have l3:=hL.m3;have c3: ∀ s t,cd Tryz.prog 189 [bK L,x4 s,x4 t] [] (.agg (tb (oZ L s t))) []:=fun s t=>AA L s t (by omega)
 have c1:=vk;unfold bK at c3⊢
 refine PQ Tryz.func146 ?_;simp only[cu,Nat.zero_add,Nat.reduceAdd]
 repeat' (first|with_reducible (first|refine ab ?_ ?_|exact True.intro)|refine RQ ?_|omega)
 refine aH (fun i:Nat=>SS [sC 2 (pB 0),sC 3 (pB 1),sC 4 (pB 2),sC 5 (pB 3),sC 6 (.c (.mh 4)),sC 27 (mK st),sI 28 st.length,sI 29 i] [some (.cells [ed L.sts,ed L.pts,mJ L.secs,kC L.lnks]),kK st ov,some (.cells [.c (.f .nils),.c (.f .nils),xI 0,.c (.f .nils),.c (.f .nils),.c (.f .nils),.c (.f .nils),.c (.f .nils),xI 0]),some (.cells [ph (mF L st i).se,SD (mF L st i).po,xI (st.length-ov-1),.c (.f .nils),SU (mF L st i).pts,SP (mF L st i).secs,SM (mF L st i).lnks,SQ (mF L st i).st,xI ov]),Sz (mF L st i).es]) (fun i=>i<=st.length) (fun i=>st.length-i) 0 ?_ (by omega) ?_
 ·
  refine WQ ?_ ?_<;>repeat' (first|with_reducible (first|refine KQ ?_|refine ab ?_ ?_|exact True.intro)|refine ax rfl ?_ ?_|exact aE.ah|exact aE.ao|exact (rfl:known _=_)|omega)
  all_goals rfl
 intro i hi;obtain ⟨n1,n2,n3,n4,n5,n6⟩:=yI L st i;by_cases hil:i<st.length
 ·have hst: ∀ C:Cb,C=jC L st (mF L st i) i->C=mF L st (i+1):=fun C h=>h
  generalize hb:mF L st i=b at*;have hK:FA 1 b.es:=by rw[← hb];exact L0 L st i
  have s1:0<=(st.getD (i:Int).toNat { sec:=0,dir:=0 }).sec/\(st.getD (i:Int).toNat { sec:=0,dir:=0 }).sec<L.secs.length:=⟨(dE (N2 hr hil)).1,(dE (N2 hr hil)).2.1⟩;have s2: ∀ d,0<=kx d/\kx d<=1:=fun d=>by unfold kx;split<;>omega
  have s3:=s2 (st.getD (i:Int).toNat { sec:=0,dir:=0 }).dir;have e1:(i:Int).toNat=i:=by omega
  repeat' (first|with_reducible (first|refine ab ?_ ?_|exact True.intro|refine DQ ?_|assumption)|((with_reducible apply aC);first|refine an (c3 _ _) rfl ?_|refine an (c1 _) rfl ?_)|((with_reducible apply bQ (n:=15)))|with_reducible (first|refine ay ?_|refine aD ?_)|((with_reducible apply av);refine aq rfl ?_ ?_;all_goals (intro hbq;(try simp only[bq] at hbq);(try (exfalso;omega))))|refine RQ ?_|((with_reducible apply aL);exact fun _=>⟨rfl,rfl⟩)|((with_reducible apply bh);kernel_rfl)|((with_reducible apply db);rfl)|((with_reducible apply zD);exact rfl)|omega)
  ·
   have hC:=hst _ (pO L st b (show i=0 by omega));refine az (i+1) ?_ ((by omega)) (by (try dsimp only);omega);refine WQ ?_ ?_<;>repeat' (first|with_reducible (first|refine KQ ?_|refine ab ?_ ?_|exact True.intro)|refine ax rfl ?_ ?_|exact (rfl:known _=_)|omega)
   all_goals (rw[← hC];try (first|rfl|simp[ez,uN,zc,fI,fS,e1]))
  ·refine Stop.mk ?_
   refine bC (bX ?_);refine eE rfl ⟨⟨trivial,trivial⟩,trivial⟩ (fV ?_);have e2:((i:Int)-1).toNat=i-1:=by omega
   have hi0:i≠0:=by omega
   have hC:=hst _ rfl;rw[pP L st b hi0] at hC
   rw[e1,e2];rw[e1] at s1 s3;have hpt:(oZ L (st.getD (i-1) bd) (st.getD i bd)).pt<L.pts.length:=JB hV _ _;change _=_ at hC;generalize hu:oZ L (st.getD (i-1) bd) (st.getD i bd)=u at*;by_cases hp:u.pt<0
   ·rw[if_pos hp] at hC
    refine nG ?_
    repeat' (first|with_reducible (first|refine ab ?_ ?_|exact True.intro|refine DQ ?_|fail)|((with_reducible apply av);refine aq rfl ?_ ?_;all_goals (intro hbq;(try simp only[bq] at hbq);(try (exfalso;omega))))|refine RQ ?_|((with_reducible apply db);rfl)|omega)
    refine az (i+1) ?_ ((by omega)) (by (try dsimp only);omega);refine WQ ?_ ?_<;>repeat' (first|with_reducible (first|refine KQ ?_|refine ab ?_ ?_|exact True.intro)|refine ax rfl ?_ ?_|exact (rfl:known _=_)|omega)
    all_goals skip
    all_goals (rw[← hC];try (first|rfl|simp[ez,uN,zc,wk,fI,fS,e1]))
   ·rw[if_neg hp] at hC
    have hP:(b.po++[-1]).length=i+1:=by simp;omega
    refine D1 _ (LG (z:=1) (F:=ez) (V:=Cu) (M:=GZ) (d:=0) (ls:=b.po++[-1]) (n:=9) 3 1 rfl rfl (by simp) (fun _=>rfl) rfl rfl) ?_;rintro ⟨cap,hcap⟩;have hcap0:=hcap;rw[hP] at hcap0
    repeat' (first|with_reducible (first|exact VQ|refine ab ?_ ?_|exact True.intro|refine DQ ?_|fail)|((with_reducible apply bQ (n:=17)))|with_reducible (refine ay ?_)|((with_reducible apply av);refine aq rfl ?_ ?_;all_goals (intro hbq;(try simp only[bq] at hbq);(try (exfalso;omega))))|refine RQ ?_|omega)
    rotate_right
    ·refine Stop.mk ?_
     refine bC (bX ?_);refine eE rfl ?_ (fV ?_)
     ·repeat' (first|exact True.intro|exact hK|apply And.intro|exact ⟨1,fun _=>⟨rfl,rfl⟩⟩|rfl)
     refine jR _ (Iy (z:=1) (F:=ez) (V:=Cu) (M:=GZ) (d:=0) (r:=(b.po++[-1]).set (i:Int).toNat ((L.secs.length:Int)+u.pt)) (m:=(cap-(b.po++[-1]).length)*1) (H':=_) false 9 3 1 (by decide) rfl rfl rfl (by simp) (by rw[List.length_set];exact hcap) (by rw[List.length_set]) (fun _=>rfl) rfl rfl (di.refl (Nat.zero_le _))) ?_;simp only[List.set_cons_zero,List.set_cons_succ];have dT:(b.po++[-1]).set i ((L.secs.length:Int)+u.pt)=b.po++[(L.secs.length:Int)+u.pt]:=by rw[← n2];simp
     rcases hk:bP b.es [u.pt] with _|x
     ·
      rw[hk] at hC
      repeat' (first|with_reducible (first|exact BQ|exact VQ|refine ab ?_ ?_|exact True.intro|refine DQ ?_|assumption)|((with_reducible apply av);refine aq rfl ?_ ?_;all_goals (intro hbq;(try simp only[bq,and_true,true_and,and_false,false_and,or_true,true_or,or_false,false_or,not_true_eq_false,not_false_eq_true,Bool.true_eq_false,Bool.false_eq_true,hk,Option.isSome_none] at hbq);(try (exfalso;omega))))|with_reducible (refine ay ?_)|refine RQ ?_|((with_reducible apply db);rfl)|omega)
      all_goals first|rfl|exact vn hK rfl|exact ⟨1,fun _=>⟨rfl,rfl⟩⟩|skip
      refine az (i+1) ?_ ((by omega)) (by (try dsimp only);omega);refine WQ ?_ ?_<;>repeat' (first|with_reducible (first|refine KQ ?_|refine ab ?_ ?_|exact True.intro)|refine ax rfl ?_ ?_|exact (rfl:known _=_)|omega)
      all_goals (rw[← hC];try (first|rfl|(simp[ez,uN,zc,wk,sY,fI,fS,e1,dT];done)|(simp only[e1,dT];exact aE.refl _)))
     ·
      rw[hk] at hC
      repeat' (first|with_reducible (first|exact BQ|refine ab ?_ ?_|exact True.intro|refine DQ ?_|assumption)|((with_reducible apply av);refine aq rfl ?_ ?_;all_goals (intro hbq;(try simp only[bq,and_true,true_and,and_false,false_and,or_true,true_or,or_false,false_or,not_true_eq_false,not_false_eq_true,Bool.true_eq_false,Bool.false_eq_true,hk,Option.isSome_some] at hbq);(try (exfalso;omega))))|with_reducible (refine ay ?_)|refine RQ ?_|((with_reducible apply db);rfl)|omega)
      all_goals first|rfl|exact ⟨1,fun _=>⟨rfl,rfl⟩⟩|skip
      refine az (i+1) ?_ ((by omega)) (by (try dsimp only);omega);refine WQ ?_ ?_<;>repeat' (first|with_reducible (first|refine KQ ?_|refine ab ?_ ?_|exact True.intro)|refine ax rfl ?_ ?_|exact (rfl:known _=_)|omega)
      all_goals (rw[← hC];try (first|rfl|(simp[ez,uN,zc,wk,sY,fI,fS,e1,dT];done)|(simp only[e1,dT];exact aE.refl _)))
    all_goals first|omega|rfl
 ·have hie:i=st.length:=by omega
  subst hie;refine ay (bC (bX ?_));refine eE rfl ?_ (fV (nG ?_))
  ·trivial
  refine ay (aq rfl ?_ ?_)
  ·intro hbq
   simp only[bq] at hbq;omega
  intro _;refine ua (rI (pw (kL rfl ?_)));refine jR _ (Oq 3 1 rfl rfl rfl rfl rfl (di.refl (Nat.zero_le _))) ?_
  repeat' (first|with_reducible (first|refine ab ?_ ?_|exact True.intro)|refine RQ ?_|fail)
  all_goals rfl
structure fk (c:dO):Prop where
 lay:bZ c.L
 sk:c.sk.length<=9223372036854775807
 rt:c.rt.length<=9223372036854775807
 ms:c.ms.length<=9223372036854775807
 rts: ∀ r∈c.rt,r.st.length<=9223372036854775807/\ -9223372036854775808<=r.ov/\r.ov<=9223372036854775807
 mss: ∀ m∈c.ms,m.du.length<=9223372036854775807
abbrev sX (c:dO) (cs:List oq) (ms:List (List v8)):Option SB:=some (.cells [ed c.L.sts,ed c.L.pts,mJ c.L.secs,kC c.L.lnks,MT c.sk,MS c.rt,G9 c.ms,SG cs,.c (.mh 1),Rw ms])
def Lk (c:dO) (d:Lf) (k:Bool):Bool:=decide (0<=d.rt)&&decide (d.rt<c.rt.length)&&decide (60<=d.dep)&&decide (d.dep<=2097152)&&decide (0<=d.dw)&&decide (d.dw<=7200)&& !(k&& !decide (d.dw=0))
theorem Dr (c:dO) (cs:List oq) (ms:List (List v8)) (es:List (List Int×tQ)) (d:Lf) (k:Bool):cd Tryz.prog 191 [.c (pB 0),.agg (RC d),vB k] [sX c cs ms,Ft es] (vB (Lk c d k)) [sX c cs ms,Ft es]:=by
 unfold Lk;refine FQ Tryz.func191 ?_;simp only[cu,Nat.zero_add,Nat.reduceAdd]
 repeat' (first|with_reducible (first|exact BQ|refine ab ?_ ?_|exact True.intro|assumption)|refine RQ ?_|(intro (hgq:(_:Bool)=true);(try simp only[bq] at hgq))|((with_reducible apply cH);simp only[bq])|(simp only[hgq,bq];done)|omega)
 ·rfl
 repeat' (first|with_reducible (first|refine KQ ?_|refine ab ?_ ?_|exact True.intro)|rfl)
theorem H7 (l:List v8) (o:v8) (hl:0<l.length) (hl2:l.length<=9223372036854775807) (ho:l.getD (l.length-1) JW=o) (h:0<=o.fst/\o.fst<=1000000/\0<=o.i/\o.i<o.cs.length/\0<=(o.cs.getD o.i.toNat eh).la/\(o.cs.getD o.i.toNat eh).la<=1000000):cd Tryz.prog 193 [.c (PF l)] [] (vI (o.fst+(o.cs.getD o.i.toNat eh).la+1)) []:=by
 have e:((l.length:Int)-1).toNat=l.length-1:=by omega
 rw[← e] at ho;refine FQ Tryz.func193 ?_;simp only[cu,Nat.zero_add,Nat.reduceAdd]
 repeat' (first|with_reducible (first|exact BQ|exact VQ|refine ab ?_ ?_|exact True.intro|exact bu.nil _)|refine RQ ?_|omega)
 all_goals first|omega|(rw[ho];first|rfl|omega)|skip
def DP (a b:Int) (n e cl:List Int) (o r:Int):tQ:=⟨a,b,.row (n.flatMap ez) n.length,.row (e.flatMap ez) e.length,.row (cl.flatMap ez) cl.length,o,r⟩
theorem BI (c:dO) (cs:List oq) (ms:List (List v8)) (es:List (List Int×tQ)) (o:v8) (f t a b:Int) (x y z:List Int) (v r:Int) (hK:FA 4 es) (h:bP es [o.rt,o.sk,f,t]=some (DP a b x y z v r)):cd Tryz.prog 192 [.c (pB 0),.agg (K8 o),vI f,vI t] [sX c cs ms,Ft es] (.agg (kZ a b x y z v r)) [sX c cs ms,Ft es]:=by
 refine FQ Tryz.func192 ?_;simp only[cu,Nat.zero_add,Nat.reduceAdd]
 repeat' (first|with_reducible (first|exact BQ|refine ab ?_ ?_|exact True.intro|assumption)|((with_reducible apply bH);intro hbq;(try simp only[bq,and_true,true_and,and_false,false_and,or_true,true_or,or_false,false_or,not_true_eq_false,not_false_eq_true,Bool.true_eq_false,Bool.false_eq_true,h,Option.isSome_some] at hbq);(try (exfalso;omega)))|refine RQ ?_|((with_reducible apply db);rfl))
 ·exact ⟨7,fun _=>⟨rfl,rfl⟩⟩
 ·rfl
 ·simp only[h,Option.getD_some,DP]
  repeat' (first|with_reducible (refine ab ?_ ?_)|refine RQ ?_|fail)
  ·rfl
  repeat' (first|with_reducible (first|refine KQ ?_|refine ab ?_ ?_|exact True.intro)|rfl)
theorem BJ (c:dO) (cs:List oq) (ms:List (List v8)) (es:List (List Int×tQ)) (o:v8) (f t a b:Int) (x y z:List Int) (v r e:Int) (hK:FA 4 es) (h:bP es [o.rt,o.sk,f,t]=none) (hi:0<=o.i/\o.i<o.cs.length) (hs:0<=o.sk/\o.sk<c.sk.length)
  (hM:cd Tryz.prog 63 [bK (o.cs.getD o.i.toNat eh).L,sO (o.cs.getD o.i.toNat eh).st (o.cs.getD o.i.toNat eh).ov,.agg (Cv (c.sk.getD o.sk.toNat iT)),vI f,vI t] [] (.cC [.agg (kZ a b x y z v r),.c (xI e)]) []):
  cd Tryz.prog 192 [.c (pB 0),.agg (K8 o),vI f,vI t] [sX c cs ms,Ft es] (.agg (kZ a b x y z v r)) [sX c cs ms,Ft (Ct es [o.rt,o.sk,f,t] (DP a b x y z v r))]:=by
 unfold bK at hM;refine FQ Tryz.func192 ?_;simp only[cu,Nat.zero_add,Nat.reduceAdd]
 repeat' (first|with_reducible (first|exact BQ|exact VQ|refine ab ?_ ?_|exact True.intro|refine DQ ?_|assumption)|((with_reducible apply aC);refine an (hM) rfl ?_)|((with_reducible apply bH);intro hbq;(try simp only[bq,and_true,true_and,and_false,false_and,or_true,true_or,or_false,false_or,not_true_eq_false,not_false_eq_true,Bool.true_eq_false,Bool.false_eq_true,h,Option.isSome_none] at hbq);(try (exfalso;omega)))|refine RQ ?_|((with_reducible apply db);rfl)|omega)
 all_goals first|exact ⟨7,fun _=>⟨rfl,rfl⟩⟩|(with_reducible exact hK)|rfl|skip
 unfold DP
 repeat' (first|with_reducible (first|refine KQ ?_|refine ab ?_ ?_|exact True.intro)|rfl)
def PA (es:List (List Int×tQ)) (key:List Int) (p:tQ):List (List Int×tQ):=
 match bP es key with
 |some _=>es
 |none=>Ct es key p
theorem BH (c:dO) (cs:List oq) (ms:List (List v8)) (es:List (List Int×tQ)) (o:v8) (f t a b:Int) (x y z:List Int) (v r e:Int) (hK:FA 4 es) (h: ∀ p,bP es [o.rt,o.sk,f,t]=some p->p=DP a b x y z v r) (hi:0<=o.i/\o.i<o.cs.length) (hs:0<=o.sk/\o.sk<c.sk.length)
  (hM:cd Tryz.prog 63 [bK (o.cs.getD o.i.toNat eh).L,sO (o.cs.getD o.i.toNat eh).st (o.cs.getD o.i.toNat eh).ov,.agg (Cv (c.sk.getD o.sk.toNat iT)),vI f,vI t] [] (.cC [.agg (kZ a b x y z v r),.c (xI e)]) []):
  cd Tryz.prog 192 [.c (pB 0),.agg (K8 o),vI f,vI t] [sX c cs ms,Ft es] (.agg (kZ a b x y z v r)) [sX c cs ms,Ft (PA es [o.rt,o.sk,f,t] (DP a b x y z v r))]:=by
 unfold PA;cases hk:bP es [o.rt,o.sk,f,t] with
 |some p=>exact BI c cs ms es o f t a b x y z v r hK (by rw[hk,h p hk])
 |none=>exact BJ c cs ms es o f t a b x y z v r e hK hk hi hs hM
theorem kg {seen:List ByteArray} {s:ByteArray}:bG seen s=0↔dr s=true/\s∉seen:=by
 unfold bG;rw[← JN];cases dr s<;>cases lg s seen<;>simp
theorem mc: ∀ (r seen:List ByteArray),aW seen r=0↔(∀ s∈r,dr s=true)/\r.Nodup/\ ∀ s∈r,s∉seen
 |[],seen=>by simp[aW]
 |x::r,seen=>by
  simp only[aW];by_cases hx:bG seen x=0
  ·rw[if_pos hx,mc r]
   have h:=kg.1 hx;simp only[List.mem_cons,List.nodup_cons,List.mem_append,List.not_mem_nil,or_false,not_or];constructor
   ·rintro ⟨a,b,c⟩
    refine ⟨fun s hs=> ?_,⟨fun hm=>(c x hm).2 rfl,b⟩,fun s hs=> ?_⟩
    ·rcases hs with rfl|hs
     ·exact h.1
     ·exact a s hs
    ·rcases hs with rfl|hs
     ·exact h.2
     ·exact (c s hs).1
   ·rintro ⟨a,⟨b1,b2⟩,c⟩
    exact ⟨fun s hs=>a s (.inr hs),b2,fun s hs=>⟨c s (.inr hs),fun e=>b1 (e▸hs)⟩⟩
  ·rw[if_neg hx]
   refine ⟨fun h=>absurd h hx,fun h=>absurd (kg.2 ⟨h.1 x (List.mem_cons_self ..),h.2.2 x (List.mem_cons_self ..)⟩) hx⟩
theorem nD (n:Nat): ∀ (r:List eP) (seen:List ByteArray),cx n seen r=0↔(∀ s∈r,dr s.nm=true/\kD n s=true)/\(r.map eP.nm).Nodup/\ ∀ s∈r,s.nm∉seen
 |[],seen=>by simp[cx]
 |x::r,seen=>by
  simp only[cx];by_cases hx:bG seen x.nm=0
  ·rw[if_pos hx]
   have h:=kg.1 hx;by_cases hb:kD n x=true
   ·rw[if_pos hb,nD n r]
    simp only[List.mem_cons,List.map_cons,List.nodup_cons,List.mem_append,List.not_mem_nil,or_false,not_or,List.mem_map,not_exists,not_and];constructor
    ·rintro ⟨a,b,c⟩
     refine ⟨fun s hs=> ?_,⟨fun y hm e=>(c y hm).2 e,b⟩,fun s hs=> ?_⟩
     ·rcases hs with rfl|hs
      ·exact ⟨h.1,hb⟩
      ·exact a s hs
     ·rcases hs with rfl|hs
      ·exact h.2
      ·exact (c s hs).1
    ·rintro ⟨a,⟨b1,b2⟩,c⟩
     exact ⟨fun s hs=>a s (.inr hs),b2,fun s hs=>⟨c s (.inr hs),b1 s hs⟩⟩
   ·rw[if_neg hb]
    refine ⟨fun h=>absurd h (by decide),fun h=>absurd (h.1 x (List.mem_cons_self ..)).2 hb⟩
  ·rw[if_neg hx]
   refine ⟨fun h=>absurd h hx,fun h=>absurd (kg.2 ⟨(h.1 x (List.mem_cons_self ..)).1,h.2.2 x (List.mem_cons_self ..)⟩) hx⟩
theorem sw (n p:Nat): ∀ (r prev:List dF),(∀ i,(h:i<r.length)->cN n p (prev++r.take i) r[i]=0)->bm n p prev r=0
 |[],_,_=>rfl
 |x::r,prev,h=>by
  simp only[bm];have h0:cN n p prev x=0:=by
   have:=h 0 (by simp);rw[List.take_zero,List.append_nil] at this
   exact this
  rw[if_pos h0];refine sw n p r _ fun i hi=> ?_
  have:=h (i+1) (by simpa using hi);simpa[List.append_assoc] using this
def Hy (L:bJ) (st:List bD) (j:Nat):eP:=⟨(fP L (st.getD j bd)).nm,(fP L (st.getD j bd)).len,(fP L (st.getD j bd)).lim,(fP L (st.getD j bd)).grd,-1⟩
theorem AG (L:bJ) (st:List bD) (b:Cb) (i:Nat):(jC L st b i).secs=b.secs++[Hy L st i]:=by
 by_cases h:i=0
 ·rw[← pO L st b h];rfl
 ·rw[pP L st b h];split<;>rfl
theorem Gt (L:bJ) (st:List bD) (b:Cb) (i:Nat):(jC L st b i).st=b.st++[⟨(i:Int),(st.getD i bd).dir⟩]:=by
 by_cases h:i=0
 ·rw[← pO L st b h]
 ·rw[pP L st b h];split<;>rfl
theorem I7 (L:bJ) (st:List bD) (i:Nat):(mF L st i).secs=(List.range i).map (Hy L st):=by
 induction i with
 |zero=>rfl
 |succ i ih=>
  rw[List.range_succ,List.map_append,← ih];exact AG L st _ i
theorem OG (L:bJ) (st:List bD) (i:Nat):(mF L st i).st=(List.range i).map fun j=>⟨(j:Int),(st.getD j bd).dir⟩:=by
 induction i with
 |zero=>rfl
 |succ i ih=>
  rw[List.range_succ,List.map_append,← ih];exact Gt L st _ i
theorem gS {β:Type} {es:List (List Int×β)} {k k':List Int} {x:β} (h:bP es k=none):bP (Ct es k x) k'=if k'=k then some x else bP es k':=by
 unfold Ct;rw[h];simp only;unfold bP at h⊢;rw[List.find?_append];by_cases e:k'=k
 ·subst e
  rw[if_pos rfl];simp only[Option.map_eq_none_iff] at h;rw[h];simp
 ·rw[if_neg e]
  have:([(k,x)]:List (List Int×β)).find? (fun p=>p.1==k')=none:=by simp[Ne.symm e]
  rw[this];simp
def Ig (L:bJ) (st:List bD) (b:Cb) (j:Nat) (k:dF):Prop:=
 k.a=j/\k.ae=kx (st.getD j bd).dir/\k.b=(j+1:Nat)/\k.be=1-kx (st.getD (j+1) bd).dir/\
 (((oZ L (st.getD j bd) (st.getD (j+1) bd)).pt<0/\k.pt= -1/\k.ps=0)\/(0<=(oZ L (st.getD j bd) (st.getD (j+1) bd)).pt/\bP b.es [(oZ L (st.getD j bd) (st.getD (j+1) bd)).pt]=some k.pt/\k.ps=(oZ L (st.getD j bd) (st.getD (j+1) bd)).ps))
structure RM (L:bJ) (st:List bD) (i:Nat) (b:Cb):Prop where
 p1: ∀ p v,bP b.es [p]=some v->0<=v/\v<b.pts.length/\0<=p/\p<L.pts.length/\b.pts.getD v.toNat ⟨#[]⟩=L.pts.getD p.toNat ⟨#[]⟩
 p2: ∀ p q v,bP b.es [p]=some v->bP b.es [q]=some v->p=q
 p3:b.pts.Nodup
 p4: ∀ s∈b.pts,∃ p v:Int,bP b.es [p]=some v/\b.pts.getD v.toNat ⟨#[]⟩=s
 k1:b.lnks.length=i-1
 k2: ∀ j,j+1<i->Ig L st b j (b.lnks.getD j a9)
theorem kX {α:Type} {l:List α} {x d:α} {i:Nat}:(l++[x]).getD i d=if i<l.length then l.getD i d else if i=l.length then x else d:=by
 simp only[List.getD_eq_getElem?_getD];by_cases h:i<l.length
 ·rw[if_pos h,List.getElem?_append_left h]
 ·rw[if_neg h]
  by_cases e:i=l.length
  ·subst e
   rw[if_pos rfl];simp
  ·rw[if_neg e,List.getElem?_eq_none (by simp;omega)];rfl
theorem vj {α:Type} {l:List α} {d:α} (h:l.Nodup) {i j:Nat} (hi:i<l.length) (hj:j<l.length) (e:l.getD i d=l.getD j d):i=j:=by
 rw[List.getD_eq_getElem?_getD,List.getD_eq_getElem?_getD,List.getElem?_eq_getElem hi,List.getElem?_eq_getElem hj] at e;exact (List.getElem_inj h).1 e
theorem QP {L:bJ} (hV:Valid L) (hn:L.pts.Nodup) (st:List bD) (i:Nat):RM L st i (mF L st i):=by
 induction i with
 |zero=>exact ⟨fun p v h=>by simp[mF,QO,bP] at h,fun p q v h=>by simp[mF,QO,bP] at h,List.nodup_nil,fun s h=>by simp[mF,QO] at h,rfl,fun j h=>by omega⟩
 |succ i ih=>
  show RM L st (i+1) (jC L st (mF L st i) i);generalize mF L st i=b at ih⊢
  by_cases hi:i=0
  ·rw[← pO L st b hi]
   exact ⟨ih.p1,ih.p2,ih.p3,ih.p4,by rw[ih.k1];omega,fun j h=>by omega⟩
  ·rw[pP L st b hi]
   have hi1:i-1+1=i:=by omega
   have hpt:=JB hV (st.getD (i-1) bd) (st.getD i bd);generalize hu:oZ L (st.getD (i-1) bd) (st.getD i bd)=u at*
   have hlast: ∀ j,j+1<i+1-> ¬ j+1<i->j=i-1:=fun j h1 h2=>by omega
   split
   ·rename_i hp
    refine ⟨ih.p1,ih.p2,ih.p3,ih.p4,by simp only[List.length_append,List.length_cons,List.length_nil,ih.k1];omega,fun j h=> ?_⟩;show Ig _ _ _ _ ((b.lnks++[_]).getD j a9)
    rw[kX,ih.k1];by_cases hj:j+1<i
    ·rw[if_pos (by omega)]
     exact ih.k2 j hj
    ·have e:=hlast j h hj
     subst e;rw[if_neg (by omega),if_pos rfl];refine ⟨by simp only;omega,rfl,by simp only;omega,by rw[hi1],.inl ⟨by rw[hi1,hu];exact hp,rfl,rfl⟩⟩
   ·rename_i hp
    have key: ∀ (es:List (List Int×Int)) (pts:List ByteArray),(∀ p v,bP b.es [p]=some v->bP es [p]=some v)->(∃ v,bP es [u.pt]=some v)->
      (∀ p v,bP es [p]=some v->0<=v/\v<pts.length/\0<=p/\p<L.pts.length/\pts.getD v.toNat ⟨#[]⟩=L.pts.getD p.toNat ⟨#[]⟩)->(∀ p q v,bP es [p]=some v->bP es [q]=some v->p=q)->pts.Nodup->(∀ s∈pts,∃ p v:Int,bP es [p]=some v/\pts.getD v.toNat ⟨#[]⟩=s)->
      RM L st (i+1) { b with se:=b.se++[(st.getD i bd).sec],po:=b.po++[(L.secs.length:Int)+u.pt],secs:=b.secs++[⟨(L.secs.getD (st.getD i bd).sec.toNat cD).nm,(L.secs.getD (st.getD i bd).sec.toNat cD).len,(L.secs.getD (st.getD i bd).sec.toNat cD).lim,(L.secs.getD (st.getD i bd).sec.toNat cD).grd,-1⟩],st:=b.st++[⟨(i:Int),(st.getD i bd).dir⟩],es:=es,pts:=pts,lnks:=b.lnks++[⟨(i:Int)-1,kx (st.getD (i-1) bd).dir,i,1-kx (st.getD i bd).dir,(bP es [u.pt]).getD 0,u.ps⟩] }:=by
     intro es pts q0 q5 q1 q2 q3 q4;refine ⟨q1,q2,q3,q4,by simp only[List.length_append,List.length_cons,List.length_nil,ih.k1];omega,fun j h=> ?_⟩;show Ig _ _ _ _ ((b.lnks++[_]).getD j a9)
     rw[kX,ih.k1];by_cases hj:j+1<i
     ·rw[if_pos (by omega)]
      obtain ⟨a1,a2,a3,a4,a5⟩:=ih.k2 j hj;exact ⟨a1,a2,a3,a4,a5.imp id fun ⟨c1,c2,c3⟩=>⟨c1,q0 _ _ c2,c3⟩⟩
     ·have e:=hlast j h hj
      subst e;rw[if_neg (by omega),if_pos rfl];obtain ⟨v,hv⟩:=q5;refine ⟨by simp only;omega,rfl,by simp only;omega,by rw[hi1],.inr ⟨by rw[hi1,hu];omega,?_,by rw[hi1,hu]⟩⟩;rw[hi1,hu];show bP es [u.pt]=some ((bP es [u.pt]).getD 0)
      rw[hv];rfl
    cases hk:bP b.es [u.pt] with
    |some v=>exact key b.es b.pts (fun _ _ h=>h) ⟨v,hk⟩ ih.p1 ih.p2 ih.p3 ih.p4
    |none=>
     have hnew:L.pts.getD u.pt.toNat ⟨#[]⟩∉b.pts:=fun hm=>by
      obtain ⟨p,v,h1,h2⟩:=ih.p4 _ hm;obtain ⟨a1,a2,a3,a4,a5⟩:=ih.p1 p v h1;rw[a5] at h2;have:=vj hn (by omega) (by omega) h2;have e:p=u.pt:=by omega
      rw[e,hk] at h1;cases h1
     refine key (Ct b.es [u.pt] b.pts.length) (b.pts++[L.pts.getD u.pt.toNat ⟨#[]⟩]) (fun p v h=> ?_) ⟨b.pts.length,?_⟩ (fun p v h=> ?_) (fun p q v h1 h2=> ?_) ?_ (fun s hs=> ?_)
     ·rw[gS hk,if_neg (fun e=>by rw[e,hk] at h;cases h)];exact h
     ·rw[gS hk,if_pos rfl]
     ·rw[gS hk] at h
      rw[kX];by_cases e:[p]=[u.pt]
      ·rw[if_pos e] at h
       injection h with h;injection e with e;subst h;subst e;rw[if_neg (by omega),if_pos (by omega)];refine ⟨by omega,by simp;omega,by omega,hpt,rfl⟩
      ·rw[if_neg e] at h
       obtain ⟨a1,a2,a3,a4,a5⟩:=ih.p1 p v h;rw[if_pos (by omega)];exact ⟨a1,by simp;omega,a3,a4,a5⟩
     ·rw[gS hk] at h1 h2
      by_cases e1:[p]=[u.pt]
      ·by_cases e2:[q]=[u.pt]
       ·injection e1 with e1;injection e2 with e2;omega
       ·rw[if_pos e1] at h1
        rw[if_neg e2] at h2;injection h1 with h1;have:=(ih.p1 q v h2).2.1;omega
      ·by_cases e2:[q]=[u.pt]
       ·rw[if_neg e1] at h1
        rw[if_pos e2] at h2;injection h2 with h2;have:=(ih.p1 p v h1).2.1;omega
       ·rw[if_neg e1] at h1
        rw[if_neg e2] at h2;exact ih.p2 p q v h1 h2
     ·rw[List.nodup_append]
      exact ⟨ih.p3,by simp,fun a ha b hb e=>by
       simp only[List.mem_singleton] at hb;subst hb;subst e;exact hnew ha⟩
     ·rcases List.mem_append.1 hs with hs|hs
      ·obtain ⟨p,v,h1,h2⟩:=ih.p4 s hs
       obtain ⟨a1,a2,_⟩:=ih.p1 p v h1;refine ⟨p,v,?_,?_⟩
       ·rw[gS hk,if_neg (fun e=>by rw[e,hk] at h1;cases h1)];exact h1
       ·rw[kX,if_pos (by omega)];exact h2
      ·simp only[List.mem_singleton] at hs
       refine ⟨u.pt,b.pts.length,?_,?_⟩
       ·rw[gS hk,if_pos rfl]
       ·rw[kX,if_neg (by omega),if_pos (by omega),hs]
theorem bW {α:Type} {f:Nat->α} {d:α} {n i:Nat} (h:i<n):((List.range n).map f).getD i d=f i:=by
 simp[List.getD_eq_getElem?_getD,h]
theorem find_congr {α:Type} {p q:α->Bool}: ∀ {l:List α},(∀ x∈l,p x=q x)->l.find? p=l.find? q
 |[],_=>rfl
 |a::l,h=>by
  rw[List.find?_cons,List.find?_cons,h a (List.mem_cons_self ..),find_congr fun x hx=>h x (List.mem_cons_of_mem _ hx)]
section
variable {L:bJ} {st:List bD} {ov:Int} (h:cw L ⟨st,ov⟩=0)
abbrev cL (L:bJ) (st:List bD) (ov:Int):bJ:=(kN L st ov).L
abbrev cR (L:bJ) (st:List bD) (ov:Int):jV:=⟨(kN L st ov).st,ov⟩
theorem yH:(cL L st ov).secs=(List.range st.length).map (Hy L st):=I7 L st _
theorem NG:(cR L st ov).st=(List.range st.length).map fun j=>⟨(j:Int),(st.getD j bd).dir⟩:=OG L st _
theorem ff:(cR L st ov).st.length=st.length:=by rw[NG];simp
theorem pN {j:Nat} (hj:j<st.length):(cR L st ov).st.getD j bd=⟨(j:Int),(st.getD j bd).dir⟩:=by rw[NG];exact bW hj
theorem OA {j:Nat} (hj:j<st.length):(cL L st ov).secs.getD j cD=Hy L st j:=by rw[yH];exact bW hj
theorem yG:(cL L st ov).secs.length=st.length:=by rw[yH];simp
theorem xn {L:bJ} (h:bB L=0):(∀ s∈L.pts,dr s=true)/\L.pts.Nodup/\(∀ s∈L.secs,dr s.nm=true/\kD L.sts.length s=true)/\(L.secs.map eP.nm).Nodup:=by
 unfold bB at h;split at h
 ·cases h
 ·split at h
  ·cases h
  ·have h1:=dC h
   have h2:=dC h1.2;have h3:=dC h2.2;have a:=(mc _ _).1 h2.1;have b:=(nD _ _ _).1 h3.1;exact ⟨a.1,a.2.1,b.1,b.2.1⟩
include h in
theorem cI:RM L st st.length (mF L st st.length):=by
 have hr:=cJ h;exact QP (df hr.lay) (xn hr.lay).2.1 st _
theorem zk (d:Int):kx d=0\/kx d=1:=by unfold kx;split<;>simp
theorem Mw {d:Int} (h:d=0\/d=1):kx (rF d)=1-kx d:=by rcases h with rfl|rfl<;>decide
include h in
theorem rN {j:Nat} (hj:j<st.length):(st.getD j bd).dir=0\/(st.getD j bd).dir=1:=(dE (dY (cJ h).ok hj)).2.2
include h in
theorem EI:(cL L st ov).lnks.length=st.length-1:=(cI h).k1
include h in
theorem qY {j:Nat} (hj:j+1<st.length):Ig L st (mF L st st.length) j ((cL L st ov).lnks.getD j a9):=(cI h).k2 j hj
include h in
theorem I4 {j:Nat} (hj:j+1<st.length):gv st.length (cL L st ov).pts.length ((cL L st ov).lnks.getD j a9)=true:=by
 have hI:=cI h;have hV:=df (cJ h).lay;obtain ⟨a1,a2,a3,a4,a5⟩:=qY h hj;have b1:=zk (st.getD j bd).dir;have b2:=zk (st.getD (j+1) bd).dir;unfold gv;rw[decide_eq_true_eq];rcases a5 with ⟨c1,c2,c3⟩|⟨c1,c2,c3⟩
 ·refine ⟨by omega,by omega,by omega,by omega,by omega,by omega,by omega,by omega,by omega,?_,by omega,by omega,by omega⟩
  have:(0:Int)<=(cL L st ov).pts.length:=by omega
  omega
 ·obtain ⟨d1,d2,d3,d4,d5⟩:=hI.p1 _ _ c2
  have d2:((cL L st ov).lnks.getD j a9).pt<(cL L st ov).pts.length:=d2;have hps:0<=(oZ L (st.getD j bd) (st.getD (j+1) bd)).ps/\(oZ L (st.getD j bd) (st.getD (j+1) bd)).ps<=1:=by
   unfold oZ;cases hf:L.lnks.find? (JA (st.getD j bd) (st.getD (j+1) bd)) with
   |none=>simp[Pj]
   |some k=>
    have:=gQ (hV.v4 k (List.mem_of_find?_eq_some hf));simp only[Option.getD_some];omega
  refine ⟨by omega,by omega,by omega,by omega,by omega,by omega,by omega,by omega,by omega,d2,by omega,by omega,by omega⟩
include h in
theorem C2:bB (cL L st ov)=0:=by
  have hr:=cJ h;have hlen:=hr.len;have h2:=hr.two;have h3:=hr.ov0;simp only at hlen h2 h3
  have hI:=cI h;have hP:=xn hr.lay;have hn6:=(yI L st st.length).2.2.2.2.2;have hll:(cL L st ov).lnks.length=st.length-1:=EI h;have hpl:(cL L st ov).pts.length<=st.length:=hn6;unfold bB;rw[if_neg (by rw[yG,hll];show ¬ (24<0\/_);omega),if_neg (by rw[yG];omega)];have e1:aW [] (cL L st ov).sts=0:=rfl;have e2:aW [] (cL L st ov).pts=0:=by
    refine (mc _ _).2 ⟨fun s hs=> ?_,hI.p3,fun s _=>by simp⟩;obtain ⟨p,v,k1,k2⟩:=hI.p4 s hs;obtain ⟨a1,a2,a3,a4,a5⟩:=hI.p1 p v k1;rw[a5] at k2
    rw[← k2];refine hP.1 _ ?_;rw[List.getD_eq_getElem?_getD,List.getElem?_eq_getElem (by omega)];exact List.getElem_mem _
  have e3:cx (cL L st ov).sts.length [] (cL L st ov).secs=0:=by
    rw[yH];refine (nD _ _ _).2 ⟨fun s hs=> ?_,?_,fun s _=>by simp⟩
    · obtain ⟨j,hj,rfl⟩:=List.mem_map.1 hs
      have hj:=List.mem_range.1 hj;have ha:0<=(st.getD j bd).sec/\(st.getD j bd).sec<L.secs.length/\_:=dE (dY hr.ok hj);have hm:fP L (st.getD j bd)∈L.secs:=by
        unfold fP;rw[List.getD_eq_getElem?_getD,List.getElem?_eq_getElem (by omega)];exact List.getElem_mem _
      obtain ⟨b1,b2⟩:=hP.2.2.1 _ hm;refine ⟨b1,?_⟩;obtain ⟨c1,c2,c3,c4,c5,c6,c7,c8⟩:=mr b2;unfold kD Hy;rw[decide_eq_true_eq];exact ⟨c1,c2,c3,c4,c5,c6,(by show (-1:Int)<= -1;decide),by show (-1:Int)<_;omega⟩
    · rw[List.map_map]
      show List.Pairwise (· ≠ ·) _;rw[List.pairwise_map];refine List.Pairwise.imp_of_mem (fun {i j} hi hj hij=> ?_) List.pairwise_lt_range;have hi:=List.mem_range.1 hi;have hj:=List.mem_range.1 hj;intro e;have ha:0<=(st.getD i bd).sec/\(st.getD i bd).sec<L.secs.length/\_:=dE (dY hr.ok hi);have hb:0<=(st.getD j bd).sec/\(st.getD j bd).sec<L.secs.length/\_:=dE (dY hr.ok hj);have hne:(st.getD i bd).sec.toNat≠(st.getD j bd).sec.toNat:=FR hr hij hj;refine hne (vj (d:=(cD:eP).nm) hP.2.2.2 (by rw[List.length_map];omega) (by rw[List.length_map];omega) ?_);have em: ∀ k,(L.secs.map eP.nm).getD k (cD:eP).nm=(L.secs.getD k cD).nm:=fun k=>by
        rw[List.getD_eq_getElem?_getD,List.getElem?_map,List.getD_eq_getElem?_getD];cases L.secs[k]? <;>rfl
      rw[em,em];exact e
  have e4:bm (cL L st ov).secs.length (cL L st ov).pts.length [] (cL L st ov).lnks=0:=by
    refine sw _ _ _ _ fun i hi=> ?_
    have hi2:i+1<st.length:=by omega
    rw[List.nil_append,yG];have eg: ∀ j,(hj:j<(cL L st ov).lnks.length)->(cL L st ov).lnks[j]=(cL L st ov).lnks.getD j a9:=fun j hj=>by
      rw[List.getD_eq_getElem?_getD,List.getElem?_eq_getElem hj];rfl
    obtain ⟨a1,a2,a3,a4,_⟩:=qY h hi2;have hB:=I4 h hi2;rw[eg i hi];have hpre: ∀ k∈(cL L st ov).lnks.take i,∃ j,j<i/\Ig L st (mF L st st.length) j k:=fun k hk=>by
      obtain ⟨j,hj,rfl⟩:=List.mem_iff_getElem.1 hk;rw[List.length_take] at hj;refine ⟨j,by omega,?_⟩;rw[List.getElem_take,eg j (by omega)];exact qY h (by omega)
    have b1:=zk (st.getD i bd).dir;have b2:=zk (st.getD (i+1) bd).dir;have f1:qK ((cL L st ov).lnks.take i) ((((cL L st ov).lnks.getD i a9).a,((cL L st ov).lnks.getD i a9).ae))=[]:=by
      unfold qK;refine List.filter_eq_nil_iff.2 fun k hk=> ?_
      obtain ⟨j,hj,c1,c2,c3,c4,_⟩:=hpre k hk;unfold eU;rw[decide_eq_true_eq];rintro (⟨d1,d2⟩|⟨d1,d2⟩)
      · simp only at d1;omega
      · simp only at d1 d2
        have:j+1=i:=by omega
        rw[this] at c4;omega
    have f2:qK ((cL L st ov).lnks.take i) ((((cL L st ov).lnks.getD i a9).b,((cL L st ov).lnks.getD i a9).be))=[]:=by
      unfold qK;refine List.filter_eq_nil_iff.2 fun k hk=> ?_
      obtain ⟨j,hj,c1,c2,c3,c4,_⟩:=hpre k hk;unfold eU;rw[decide_eq_true_eq];rintro (⟨d1,d2⟩|⟨d1,d2⟩)<;>(simp only at d1;omega)
    unfold cN;rw[if_neg (by rw[hB];decide),if_neg (fun e=>by injection e with e _;omega),if_neg,if_neg]
    · rw[f1,f2];simp[pX]
    · intro e
      obtain ⟨k,hk,e⟩:=List.any_eq_true.1 e;rw[Bool.and_eq_true] at e;have:k∈qK ((cL L st ov).lnks.take i) ((((cL L st ov).lnks.getD i a9).a,((cL L st ov).lnks.getD i a9).ae)):=List.mem_filter.2 ⟨hk,e.1⟩;rw[f1] at this;cases this
  rw[e1,e2,e3,e4];rfl
include h in
theorem LY {i:Nat} (hi:i+1<st.length):(cL L st ov).lnks.find? (nK ((cR L st ov).st.getD i bd) ((cR L st ov).st.getD (i+1) bd))=some ((cL L st ov).lnks.getD i a9):=by
 have hll:(cL L st ov).lnks.length=st.length-1:=EI h;have hd2:=rN h hi;rw[pN (by omega),pN hi];refine j7 (by omega) ?_ fun j hj=> ?_
 ·obtain ⟨a1,a2,a3,a4,_⟩:=qY h hi
  unfold nK;rw[Bool.or_eq_true,decide_eq_true_eq];exact .inl ⟨⟨a1,a2⟩,a3,by simp only;rw[Mw hd2];exact a4⟩
 ·obtain ⟨a1,a2,a3,a4,_⟩:=qY h (show j+1<st.length by omega)
  unfold nK;rw[Bool.or_eq_false_iff,decide_eq_false_iff_not,decide_eq_false_iff_not];constructor
  ·rintro ⟨⟨c1,_⟩,_⟩
   simp only at c1;omega
  ·rintro ⟨⟨c1,_⟩,_⟩
   simp only at c1;omega
include h in
theorem EJ {i:Nat} (hi:i+1<st.length):(ij (cL L st ov) ((cR L st ov).st.getD i bd) ((cR L st ov).st.getD (i+1) bd)).map rR.pt=some ((cL L st ov).lnks.getD i a9).pt:=by
 have hd1:=rN h (show i<st.length by omega);have hd2:=rN h hi;rw[← my (C2 h) (by rw[pN (by omega)];exact hd1) (by rw[pN hi];exact hd2)];unfold kH;rw[LY h hi];rfl
include h in
theorem OE:cw (cL L st ov) (cR L st ov)=0:=by
 have hr:=cJ h;have hlen:=hr.len;have h1:=hr.ov;have h2:=hr.two;have h3:=hr.ov0;simp only at hlen h2 h3 h1
 refine FH (C2 h) (by rw[ff];show ¬ (24<st.length\/2<ov);omega) (by rw[ff];show ¬ (ov<0\/(st.length:Int)-ov<2);omega) (tf fun j hj=> ?_) (yU fun j hj=> ?_) (qf fun j hj=> ?_)
 ·rw[ff] at hj
  rw[pN hj];have:=rN h hj;unfold bD.ok;rw[yG];simp only[Bool.and_eq_true,Bool.or_eq_true,decide_eq_true_eq];exact ⟨⟨by omega,by omega⟩,this⟩
 ·rw[ff] at hj
  cases e:iM (cR L st ov).st j with
  |false=>rfl
  |true=>
   exfalso;unfold iM at e
   obtain ⟨x,hx,e2⟩:=List.any_eq_true.1 e;obtain ⟨i,hi,rfl⟩:=List.mem_iff_getElem.1 hx;rw[List.length_take,ff] at hi;rw[decide_eq_true_eq,pN hj] at e2;have e3:((cR L st ov).st.take j)[i]=(cR L st ov).st.getD i bd:=by
    rw[List.getElem_take,List.getD_eq_getElem?_getD,List.getElem?_eq_getElem (by rw[ff];omega)];rfl
   rw[e3,pN (by omega)] at e2;simp only at e2;omega
 ·rw[ff] at hj
  unfold iw;have:=EJ h hj;cases e:ij (cL L st ov) ((cR L st ov).st.getD j bd) ((cR L st ov).st.getD (j+1) bd) with
  |some x=>rfl
  |none=>rw[e] at this;cases this
theorem Cm {α:Type} (l:List α) (d:α) {m:Nat} (hm:m<=l.length):l.take m=(List.range m).map fun j=>l.getD j d:=by
 apply List.ext_getElem
 ·simp;omega
 ·intro i h1 h2
  simp only[List.length_take] at h1;rw[List.getElem_take,List.getElem_map,List.getElem_range,List.getD_eq_getElem?_getD,List.getElem?_eq_getElem (by omega)];rfl
theorem zK {j:Nat} (hj:j<st.length):fP (cL L st ov) ((cR L st ov).st.getD j bd)=Hy L st j:=by
 rw[pN hj];unfold fP;simp only[Int.toNat_natCast];exact OA hj
theorem OH {j:Nat} (hj:j<st.length):fg (cL L st ov) ((cR L st ov).st.getD j bd)=fg L (st.getD j bd):=by
 unfold fg uA;rw[zK hj,pN hj];rfl
theorem AL {L:bJ} {l:List bD} {m:Nat} (hm:m<=l.length):dZ L (l.take m)=(List.range m).flatMap fun j=>fg L (l.getD j bd):=by
 unfold dZ;rw[Cm l bd hm,List.flatMap_map]
theorem wm {α β:Type} {l:List α} {f g:α->List β} (h: ∀ x∈l,f x=g x):l.flatMap f=l.flatMap g:=by
 induction l with
 |nil=>rfl
 |cons a l ih=>
  rw[List.flatMap_cons,List.flatMap_cons,h a (List.mem_cons_self ..),ih fun x hx=>h x (List.mem_cons_of_mem _ hx)]
theorem N4:bN (cR L st ov)=(cR L st ov).st.take ((st.length:Int)-ov).toNat:=by unfold bN;rw[ff]
theorem I9 {m:Nat} (hm:m<=st.length):dZ (cL L st ov) ((cR L st ov).st.take m)=dZ L (st.take m):=by
 rw[AL (by rw[ff];exact hm),AL hm];refine wm fun j hj=> ?_
 have:=List.mem_range.1 hj;exact OH (by omega)
theorem any_map {l:List bD} {p:bD->Bool} {m:Nat} (hm:m<=l.length):(l.take m).any p=(List.range m).any fun j=>p (l.getD j bd):=by
 rw[Cm l bd hm,List.any_map];rfl
theorem oN {α:Type} {l:List α} {f g:α->Bool} (h: ∀ x∈l,f x=g x):l.any f=l.any g:=by
 induction l with
 |nil=>rfl
 |cons a l ih=>
  rw[List.any_cons,List.any_cons,h a (List.mem_cons_self ..),ih fun x hx=>h x (List.mem_cons_of_mem _ hx)]
theorem Nh {m:Nat} {l:Int} (hm:m<=st.length):((cR L st ov).st.take m).any (tight (cL L st ov) l)=(st.take m).any (tight L l):=by
 rw[any_map (by rw[ff];exact hm),any_map hm];refine oN fun j hj=> ?_
 have:=List.mem_range.1 hj;unfold tight;rw[zK (by omega)];rfl
include h in
theorem I6:cZ (cL L st ov) (cR L st ov)=cZ L ⟨st,ov⟩:=by
 have hr:=cJ h;have h3:=hr.ov0;simp only at h3
 unfold cZ;rw[OE h,h,N4,I9 (by omega)];rfl
include h in
theorem OC (l sp ac br:Int):b8 (cL L st ov) (cR L st ov) l sp ac br=b8 L ⟨st,ov⟩ l sp ac br:=by
 have hr:=cJ h;have h3:=hr.ov0;simp only at h3
 unfold b8;rw[I6 h,N4,Nh (by omega)];rfl
include h in
theorem NF (i:Nat) (hi:i<st.length):(fM L st i<0/\fM (cL L st ov) (cR L st ov).st i= -1)\/(0<=fM L st i/\bP (mF L st st.length).es [fM L st i]=some (fM (cL L st ov) (cR L st ov).st i)):=by
 have hr:=cJ h;unfold fM;by_cases e:i=0
 ·rw[if_pos e,if_pos e];exact .inl ⟨by omega,rfl⟩
 ·rw[if_neg e,if_neg e]
  have hd1:=rN h (show i-1<st.length by omega);have hd2:=rN h hi;have e1:i-1+1=i:=by omega
  have hj:=EJ h (i:=i-1) (by omega);obtain ⟨_,_,_,_,a5⟩:=qY h (show i-1+1<st.length by omega);rw[e1] at hj a5
  rw[hj];have hb:(oZ L (st.getD (i-1) bd) (st.getD i bd)).pt=((ij L (st.getD (i-1) bd) (st.getD i bd)).map rR.pt).getD (-1):=by
   rw[← my hr.lay hd1 hd2];unfold oZ kH;have:L.lnks.find? (JA (st.getD (i-1) bd) (st.getD i bd))=L.lnks.find? (nK (st.getD (i-1) bd) (st.getD i bd)):=find_congr fun k hk=>Mq hr.lay hd1 hd2 hk
   rw[this];cases L.lnks.find? (nK (st.getD (i-1) bd) (st.getD i bd))<;>rfl
  rw[← hb];simp only[Option.getD_some];rcases a5 with ⟨c1,c2,_⟩|⟨c1,c2,_⟩
  ·exact .inl ⟨c1,c2⟩
  ·exact .inr ⟨c1,c2⟩
include h in
theorem OB:wi (cL L st ov) (cR L st ov).st=wi L st:=by
 have hI:=cI h;unfold wi;rw[ff];refine oN fun i hi=> ?_
 have hi:=List.mem_range.1 hi;rcases NF h i hi with ⟨a1,a2⟩|⟨a1,a2⟩
 ·rw[a2,decide_eq_false (show ¬ (0:Int)<= -1 by decide),decide_eq_false (by omega)]
  simp
 ·have a3:=(hI.p1 _ _ a2).1
  rw[decide_eq_true a1,decide_eq_true a3];simp only[Bool.true_and];refine oN fun j hj=> ?_
  have hj:=List.mem_range.1 hj;rw[decide_eq_decide];rcases NF h j (by omega) with ⟨b1,b2⟩|⟨b1,b2⟩
  ·rw[b2]
   exact ⟨fun e=>by rw[← e] at a3;exact absurd a3 (by decide),fun e=>by rw[e] at b1;omega⟩
  ·constructor
   ·intro e
    rw[e] at b2;exact hI.p2 _ _ _ b2 a2
   ·intro e
    rw[e] at b2;rw[a2] at b2;injection b2 with b2;exact b2.symm
include h in
theorem OD (l sp ac br:Int):eV (cL L st ov) (cR L st ov) l sp ac br=eV L ⟨st,ov⟩ l sp ac br:=by
 unfold eV;rw[OC h];show (if _ then _ else if wi (cL L st ov) (cR L st ov).st=true then _ else _)=_
 rw[OB h]
include h in
theorem OF (l sp ac br:Int):lC (cL L st ov) (cR L st ov) l sp ac br=lC L ⟨st,ov⟩ l sp ac br:=by
 have hr:=cJ h;have h2:=hr.two;have h3:=hr.ov0;simp only at h2 h3
 have e0:((st.length:Int)-ov).toNat<=st.length:=by omega
 have eT:dZ (cL L st ov) (bN (cR L st ov))=dZ L (bN ⟨st,ov⟩):=by
  unfold bN;rw[ff];exact I9 e0
 have eO:dL (cL L st ov) (cR L st ov)=dL L ⟨st,ov⟩:=by
  unfold dL;rw[I6 h];split
  ·show (fP (cL L st ov) ((cR L st ov).st.getD 0 bd)).len=_
   rw[zK (by omega)];rfl
  ·rfl
 have eL:(bN (cR L st ov)).length=(bN ⟨st,ov⟩).length:=by unfold bN;rw[List.length_take,List.length_take,ff]
 have eA: ∀ k,k<(bN ⟨st,ov⟩).length->aT (cL L st ov) (bN (cR L st ov)) k=aT L (bN ⟨st,ov⟩) k:=by
  intro k
  induction k with
  |zero=>intro _;rfl
  |succ k ih=>
   intro hk;rw[aT,aT,ih (by omega)];congr 1;have hk2:k+1<((st.length:Int)-ov).toNat:=by
    unfold bN at hk;rw[List.length_take] at hk;simp only at hk;omega
   unfold i7;have x1:(bN (cR L st ov)).getD (k+1) bd=(cR L st ov).st.getD (k+1) bd:=by
    unfold bN;rw[ff,List.getD_eq_getElem?_getD,List.getElem?_take_of_lt hk2,← List.getD_eq_getElem?_getD]
   have x2:(bN ⟨st,ov⟩).getD (k+1) bd=st.getD (k+1) bd:=by
    unfold bN;rw[List.getD_eq_getElem?_getD,List.getElem?_take_of_lt hk2,← List.getD_eq_getElem?_getD]
   rw[x1,x2];have:=zK (L:=L) (st:=st) (ov:=ov) (show k+1<st.length by omega);unfold fP at this;rw[this];rfl
 unfold lC eY;rw[eT,eO,eL];by_cases hz:(bN ⟨st,ov⟩).length=0
 ·rw[hz];rfl
 ·rw[eA _ (by omega)]
end
def i5 (f:Nat->Int) (n:Nat):Int:=(((List.range n).find? fun i=> !decide (f i=0)).map f).getD 0
theorem n7 {f:Nat->Int} {n:Nat} (h: ∀ i,i<n->f i=0):i5 f n=0:=by
 unfold i5;rw[List.find?_eq_none.2 fun x hx=>by rw[h x (List.mem_range.1 hx)];simp];rfl
theorem nZ {f:Nat->Int} {n i:Nat} (hi:i<n) (h:f i≠0) (hno: ∀ j,j<i->f j=0):i5 f n=f i:=by
 unfold i5;have:=j7 (p:=fun i=> !decide (f i=0)) (d:=0) (l:=List.range n) (i:=i) (by simpa using hi) (by simp[List.getD_eq_getElem?_getD,hi,h]) (fun j hj=>by
  have hjn:j<n:=by omega
  simp[List.getD_eq_getElem?_getD,hjn,hno j hj])
 rw[this];simp[List.getD_eq_getElem?_getD,hi]
theorem uR {f:Nat->Int} {n:Nat} (h:i5 f n=0): ∀ i,i<n->f i=0:=by
 intro i
 induction i using Nat.strongRecOn with
 |_ i ih=>
  intro hi;by_cases e:f i=0
  ·exact e
  ·rw[nZ hi e fun j hj=>ih j hj (by omega)] at h
   exact h
def gq (cs:List oq) (r:Int):oq:=cs.getD r.toNat eh
def cX (c:dO) (s:Int):Iq:=c.sk.getD s.toNat iT
def s8 (c:dO) (cs:List oq) (r s:Int):Int:=eV (gq cs r).L ⟨(gq cs r).st,(gq cs r).ov⟩ (cX c s).len (cX c s).sp (cX c s).ac (cX c s).br
def gP (cs:List oq) (r:Int):Nat:=(gq cs r).la.toNat
def G6 (cs:List oq) (r:Int):jV:=dV (gq cs r).st (gq cs r).ov 0 (gP cs r)
def gF (c:dO) (cs:List oq) (r s:Int):Int:=lC (gq cs r).L (G6 cs r) (cX c s).len (cX c s).sp (cX c s).ac (cX c s).br
def MQ (c:dO) (cs:List oq) (r s:Int):tQ:=DP 0 (gP cs r) (row (gP cs r) (sx (gq cs r).L (G6 cs r) (cX c s).len (cX c s).sp (cX c s).ac (cX c s).br)) (row (gP cs r) (sy (gq cs r).L (G6 cs r) (cX c s).len (cX c s).sp (cX c s).ac (cX c s).br)) (row (gP cs r) (AP (gq cs r).L (G6 cs r) (cX c s).len (cX c s).sp (cX c s).ac (cX c s).br)) (J3 (gq cs r).L (G6 cs r) (cX c s).len (cX c s).sp (cX c s).ac (cX c s).br (gP cs r)) (gF c cs r s)
structure Lo (c:dO) (cs:List oq):Prop where
 len:cs.length=c.rt.length
 lay: ∀ i,i<cs.length->bZ (cs.getD i eh).L
 st: ∀ i,i<cs.length->(cs.getD i eh).st.length<=24
 ov: ∀ i,i<cs.length->0<=(cs.getD i eh).ov/\(cs.getD i eh).ov<=2
 la: ∀ i,i<cs.length->(cs.getD i eh).la=(cs.getD i eh).st.length-(cs.getD i eh).ov-1/\1<=(cs.getD i eh).la
 se: ∀ i,i<cs.length->(cs.getD i eh).se.length=(cs.getD i eh).st.length
def oT (cs:List oq) (m:Ep):Nat->Int
 |0=>0
 |k+1=>oT cs m k+(gq cs (m.du.getD k bp).rt).la
def jM (c:dO) (cs:List oq) (m:Ep) (k:Nat):v8:=⟨cs,(m.du.getD k bp).rt,(m.du.getD k bp).rt,m.sk,(m.du.getD k bp).dep,(m.du.getD k bp).dw,oT cs m k,gF c cs (m.du.getD k bp).rt m.sk⟩
def jW (c:dO) (cs:List oq) (m:Ep) (k:Nat):Int:=
 if Lk c (m.du.getD k bp) (decide ((k:Int)=0))=false then 4 else if s8 c cs (m.du.getD k bp).rt m.sk≠0 then s8 c cs (m.du.getD k bp).rt m.sk else
 if k=0 then 0 else
 if (gq cs (m.du.getD k bp).rt).se.getD 0 0≠(gq cs (m.du.getD (k-1) bp).rt).se.getD (gP cs (m.du.getD (k-1) bp).rt) 0 then 11 else
 if (m.du.getD k bp).dep<(m.du.getD (k-1) bp).dep+gF c cs (m.du.getD (k-1) bp).rt m.sk+(m.du.getD k bp).dw then 14 else 0
def jh (c:dO) (cs:List oq) (m:Ep):Int:=
 if m.sk<0\/(c.sk.length:Int)<=m.sk then 4 else if m.du.length=0 then 1 else if 12<m.du.length then 7 else
 if i5 (jW c cs m) m.du.length≠0 then i5 (jW c cs m) m.du.length else if 64<oT cs m m.du.length+1 then 7 else 0
structure CE (c:dO) (cs:List oq) (es:List (List Int×tQ)):Prop where
 ok:FA 4 es
 at_: ∀ r s p,bP es [r,s,0,(gq cs r).la]=some p->p=MQ c cs r s
theorem Mx {c:dO} {cs:List oq} {es:List (List Int×tQ)} (h:CE c cs es) (r s:Int):CE c cs (PA es [r,s,0,(gq cs r).la] (MQ c cs r s)):=by
 unfold PA;cases hk:bP es [r,s,0,(gq cs r).la] with
 |some p=>exact h
 |none=>
  refine ⟨vn h.ok rfl,fun r' s' p hp=> ?_⟩;rw[gS hk] at hp
  by_cases e:[r',s',0,(gq cs r').la]=[r,s,0,(gq cs r).la]
  ·rw[if_pos e] at hp
   injection e with e1 e;injection e with e2 e;injection hp with hp;rw[← hp,e1,e2]
  ·rw[if_neg e] at hp
   exact h.at_ r' s' p hp
theorem ni {c:dO} {d:Lf} {k:Bool} (h:Lk c d k=true):0<=d.rt/\d.rt<c.rt.length/\60<=d.dep/\d.dep<=2097152/\0<=d.dw/\d.dw<=7200:=by
 unfold Lk at h;simp only[Bool.and_eq_true,decide_eq_true_eq] at h;obtain ⟨⟨⟨⟨⟨⟨a,b⟩,c⟩,d⟩,e⟩,f⟩,_⟩:=h;exact ⟨a,b,c,d,e,f⟩
theorem m5 {c:dO} {cs:List oq} {m:Ep} {k:Nat} (h:jW c cs m k=0):Lk c (m.du.getD k bp) (decide ((k:Int)=0))=true/\s8 c cs (m.du.getD k bp).rt m.sk=0:=by
 unfold jW at h;split at h
 ·cases h
 ·rename_i h1
  split at h
  ·rename_i h2;exact absurd h h2
  ·rename_i h2
   exact ⟨by simpa using h1,by simpa using h2⟩
theorem tz {c:dO} {cs:List oq} {m:Ep} {k:Nat} (h1: ¬ (m.sk<0\/(c.sk.length:Int)<=m.sk)) (h2: ¬ m.du.length=0) (h3: ¬ 12<m.du.length) (hk:k<m.du.length) (he:jW c cs m k≠0) (hno: ∀ j,j<k->jW c cs m j=0):jh c cs m=jW c cs m k:=by
 unfold jh;rw[if_neg h1,if_neg h2,if_neg h3,nZ hk he hno,if_pos he]
theorem JQ {c:dO} {cs:List oq} {m:Ep} (h1: ¬ (m.sk<0\/(c.sk.length:Int)<=m.sk)) (h2: ¬ m.du.length=0) (h3: ¬ 12<m.du.length) (hno: ∀ j,j<m.du.length->jW c cs m j=0):jh c cs m=if 64<oT cs m m.du.length+1 then 7 else 0:=by
 unfold jh;rw[if_neg h1,if_neg h2,if_neg h3,n7 hno,if_neg (by simp)]
theorem uU {c:dO} {cs:List oq} (hcs:Lo c cs) {m:Ep}: ∀ {k:Nat},(∀ j,j<k->0<=(m.du.getD j bp).rt/\(m.du.getD j bp).rt<cs.length)->0<=oT cs m k/\oT cs m k<=24*k
 |0,_=>by simp[oT]
 |k+1,h=>by
  have ih:=uU hcs (k:=k) fun j hj=>h j (by omega)
  obtain ⟨a,b⟩:=h k (by omega);have h1:=hcs.la _ (show (m.du.getD k bp).rt.toNat<cs.length by omega);have h2:=hcs.st _ (show (m.du.getD k bp).rt.toNat<cs.length by omega);have h3:=hcs.ov _ (show (m.du.getD k bp).rt.toNat<cs.length by omega);unfold oT gq;omega
theorem vJ {c:dO} {cs:List oq} (hcs:Lo c cs) {r s:Int} (h0:0<=r/\r<cs.length) (h:s8 c cs r s=0):0<gF c cs r s/\gF c cs r s<=80001:=by
 have h1:=hcs.la _ (show r.toNat<cs.length by omega);have h3:=hcs.ov _ (show r.toNat<cs.length by omega);exact M5 (oc (rC (ve h).1 (show 0<(cs.getD r.toNat eh).la.toNat by omega) (show (((cs.getD r.toNat eh).la.toNat:Nat):Int)<=(cs.getD r.toNat eh).st.length-(cs.getD r.toNat eh).ov-1 by omega)))
theorem Gz (c:dO) (hc:fk c) (cs:List oq) (hcs:Lo c cs) (ms:List (List v8)) (es:List (List Int×tQ)) (hes:CE c cs es) (m:Ep) (hm:m.du.length<=9223372036854775807):
  Lt Tryz.prog 147 [.c (pB 0),.agg (Nq m)] [sX c cs ms,Ft es] (CE c cs) (fun _=> .cC [.c (PF (if jh c cs m=0 then (List.range m.du.length).map (jM c cs m) else [])),.c (xI (jh c cs m))]) (fun es'=>[sX c cs ms,Ft es']):=by
 have hsk:=hc.sk;have hn:=hcs.len;refine ub aA Tryz.func147 rfl (by kernel_rfl) (Nat.le_of_ble_eq_true (by kernel_rfl)) (by kernel_rfl) (fun x hx=>⟨rfl,rfl,nb rfl,rfl⟩) rfl ?_;simp only[cu,Nat.zero_add,Nat.reduceAdd]
 repeat' (first|with_reducible (first|refine ab ?_ ?_|exact True.intro|refine DQ ?_|assumption)|with_reducible (first|refine ay ?_|refine aD ?_)|((with_reducible apply av);refine aq rfl ?_ ?_;all_goals (intro hbq;(try simp only[bq] at hbq);(try (exfalso;omega))))|refine RQ ?_|(intro (hgq:(_:Bool)=true);(try simp only[bq] at hgq))|(intro (hgq:(_:Bool)=false);(try simp only[bq] at hgq))|((with_reducible apply bh);kernel_rfl)|((with_reducible apply cH);simp only[bq]))
 ·have he:jh c cs m=4:=by unfold jh;rw[if_pos (by simpa using hbq)]
  rw[he];refine gJ rfl es hes ?_ ?_
  ·rfl
  repeat' (first|with_reducible (first|refine KQ ?_|refine ab ?_ ?_|exact True.intro)|rfl)
 ·have he:jh c cs m=1:=by unfold jh;rw[if_neg (by omega),if_pos (by omega)]
  rw[he];refine gJ rfl es hes ?_ ?_
  ·rfl
  repeat' (first|with_reducible (first|refine KQ ?_|refine ab ?_ ?_|exact True.intro)|rfl)
 ·have he:jh c cs m=7:=by unfold jh;rw[if_neg (by omega),if_neg (by omega),if_pos (by omega)]
  rw[he];refine gJ rfl es hes ?_ ?_
  ·rfl
  repeat' (first|with_reducible (first|refine KQ ?_|refine ab ?_ ?_|exact True.intro)|rfl)
 have q1: ¬ (m.sk<0\/(c.sk.length:Int)<=m.sk):=by omega
 have q2: ¬ m.du.length=0:=by omega
 have q3: ¬ 12<m.du.length:=by omega
 refine aH (fun x:Nat×List (List Int×tQ)=>SS [sC 0 (pB 0),sC 3 (pB 2),sC 6 (SO ((List.range x.1).map (jM c cs m))),sC 39 (PD m.du),sI 40 m.du.length,sI 41 x.1] [sX c cs ms,Ft x.2,some (.cells (Nq m))]) (fun x=>x.1<=m.du.length/\CE c cs x.2/\ ∀ j,j<x.1->jW c cs m j=0) (fun x=>m.du.length-x.1) (0,es) ?_ ⟨by simp,hes,fun j hj=>absurd hj (by simp)⟩ ?_
 ·
  refine WQ ?_ ?_<;>repeat' (first|with_reducible (first|refine KQ ?_|refine ab ?_ ?_|exact True.intro)|refine ax rfl ?_ ?_|exact aE.ah|refine cg.cons ?_ ?_|exact (rfl:known _=_)|with_reducible rfl|omega)
  all_goals skip
 rintro ⟨k,es⟩ ⟨hk,hE,hno⟩;simp only at hk hE hno⊢
 clear hes;by_cases hkl:k<m.du.length
 ·have hR:=Dr c cs ms es (m.du.getD (k:Int).toNat bp) (decide ((k:Int)=0))
  rcases Bool.eq_false_or_eq_true (Lk c (m.du.getD (k:Int).toNat bp) (decide ((k:Int)=0))) with r1|r1
  ·obtain ⟨g1,g2,g3,g4,g5,g6⟩:=ni r1
   have hi:(m.du.getD (k:Int).toNat bp).rt.toNat<cs.length:=by omega
   have cY:=hcs.lay _ hi;have cS:=hcs.st _ hi;have cO:=hcs.ov _ hi;have cL:=hcs.la _ hi;have cE:=hcs.se _ hi;have hF:=vb _ cY (cs.getD (m.du.getD (k:Int).toNat bp).rt.toNat eh).st (cs.getD (m.du.getD (k:Int).toNat bp).rt.toNat eh).ov (by omega) (by omega) (c.sk.getD m.sk.toNat iT).nm (c.sk.getD m.sk.toNat iT).len (c.sk.getD m.sk.toNat iT).sp (c.sk.getD m.sk.toNat iT).ac (c.sk.getD m.sk.toNat iT).br;unfold bK at hF
   change cd Tryz.prog _ _ [] (vI (s8 c cs (m.du.getD (k:Int).toNat bp).rt m.sk)) [] at hF;by_cases r2:s8 c cs (m.du.getD (k:Int).toNat bp).rt m.sk=0
   ·have hla:(((gP cs (m.du.getD (k:Int).toNat bp).rt:Nat)):Int)=(cs.getD (m.du.getD (k:Int).toNat bp).rt.toNat eh).la:=by unfold gP gq;omega
    have hla1:0<gP cs (m.du.getD (k:Int).toNat bp).rt:=by omega
    have hM:=Fq _ cY (cs.getD (m.du.getD (k:Int).toNat bp).rt.toNat eh).st (cs.getD (m.du.getD (k:Int).toNat bp).rt.toNat eh).ov (by omega) (by omega) (c.sk.getD m.sk.toNat iT).nm (c.sk.getD m.sk.toNat iT).len (c.sk.getD m.sk.toNat iT).sp (c.sk.getD m.sk.toNat iT).ac (c.sk.getD m.sk.toNat iT).br 0 (gP cs (m.du.getD (k:Int).toNat bp).rt) r2 hla1 (by omega);rw[hla] at hM
    have hP:=BH c cs ms es ⟨cs,(m.du.getD (k:Int).toNat bp).rt,(m.du.getD (k:Int).toNat bp).rt,m.sk,(m.du.getD (k:Int).toNat bp).dep,(m.du.getD (k:Int).toNat bp).dw,0,0⟩ 0 (cs.getD (m.du.getD (k:Int).toNat bp).rt.toNat eh).la 0 (gP cs (m.du.getD (k:Int).toNat bp).rt) _ _ _ _ (gF c cs (m.du.getD (k:Int).toNat bp).rt m.sk) 0 hE.ok (hE.at_ _ _) ⟨by show (0:Int)<=(m.du.getD (k:Int).toNat bp).rt;omega,by show (m.du.getD (k:Int).toNat bp).rt<cs.length;omega⟩ ⟨by show (0:Int)<=m.sk;omega,by show m.sk<c.sk.length;omega⟩ hM;have hE2:=Mx hE (m.du.getD (k:Int).toNat bp).rt m.sk;have hrn:=vJ hcs (r:=(m.du.getD (k:Int).toNat bp).rt) ⟨by omega,by omega⟩ r2;clear hM;change CE c cs (PA es [_,_,0,(cs.getD (m.du.getD (k:Int).toNat bp).rt.toNat eh).la] _) at hE2
    change cd Tryz.prog _ _ _ _ [_,Ft (PA es [(m.du.getD (k:Int).toNat bp).rt,m.sk,0,(cs.getD (m.du.getD (k:Int).toNat bp).rt.toNat eh).la] (MQ c cs (m.du.getD (k:Int).toNat bp).rt m.sk))] at hP;generalize PA es [(m.du.getD (k:Int).toNat bp).rt,m.sk,0,(cs.getD (m.du.getD (k:Int).toNat bp).rt.toNat eh).la] (MQ c cs (m.du.getD (k:Int).toNat bp).rt m.sk)=es2 at*;have r1':Lk c (m.du.getD k bp) (decide ((k:Int)=0))=true:=r1;have r2':s8 c cs (m.du.getD k bp).rt m.sk=0:=r2;have hln:((List.range k).map (jM c cs m)).length=k:=by simp
    have hnx:(List.range (k+1)).map (jM c cs m)=(List.range k).map (jM c cs m)++[jM c cs m k]:=by rw[List.range_succ,List.map_append];rfl
    by_cases hk0:k=0
    ·have hd:jW c cs m k=0:=by
      unfold jW;rw[r1',if_neg (by decide),if_neg (by simpa using r2'),if_pos hk0]
     repeat' (first|with_reducible (first|refine ab ?_ ?_|exact True.intro|refine DQ ?_|assumption)|((with_reducible apply aC);first|refine iq [0,1] (hR) rfl rfl rfl rfl rfl rfl rfl rfl rfl rfl rfl rfl rfl ?_|refine an (hF) rfl ?_|refine iq [0,1] (hP) rfl rfl rfl rfl rfl rfl rfl rfl rfl rfl rfl rfl rfl ?_)|((with_reducible apply av);refine aq rfl ?_ ?_;all_goals (intro hbq;(try simp only[bq,and_true,true_and,and_false,false_and,or_true,true_or,or_false,false_or,not_true_eq_false,not_false_eq_true,Bool.true_eq_false,Bool.false_eq_true,r1,r2] at hbq);(try (exfalso;omega))))|with_reducible (first|refine ay ?_|refine aD ?_)|refine RQ ?_|((with_reducible apply aL);exact fun _=>⟨rfl,rfl⟩)|((with_reducible apply bh);kernel_rfl)|((with_reducible apply db);rfl)|omega)
     all_goals first|omega|skip
     refine az (((k+1,es2):Nat×List (List Int×tQ))) ?_ (⟨by simp only;omega,hE2,bR hno hd⟩) (by (try dsimp only);omega);refine WQ ?_ ?_<;>repeat' (first|with_reducible (first|refine KQ ?_|refine ab ?_ ?_|exact True.intro)|refine ax rfl ?_ ?_|refine cg.cons ?_ ?_|exact (rfl:known _=_)|with_reducible rfl|omega)
     ·show _=List.flatMap Dk ((List.range (k+1)).map (jM c cs m))
      rw[hnx];subst hk0;simp[Dk,jM,oT,fI]
     ·show _=((List.range (k+1)).map (jM c cs m)).length
      simp
    ·have hb0:=m5 (hno (k-1) (by omega))
     obtain ⟨b1,b2,b3,b4,b5,b6⟩:=ni hb0.1;have bi:(m.du.getD (k-1) bp).rt.toNat<cs.length:=by omega
     have bS:=hcs.st _ bi;have bO:=hcs.ov _ bi;have bL:=hcs.la _ bi;have bE:=hcs.se _ bi;have hbr:=vJ hcs (r:=(m.du.getD (k-1) bp).rt) ⟨by omega,by omega⟩ hb0.2;have hfb:=uU hcs (m:=m) (k:=k-1) fun j hj=>by
      have:=ni (m5 (hno j (by omega))).1;omega
     have hfk:oT cs m k=oT cs m (k-1)+(cs.getD (m.du.getD (k-1) bp).rt.toNat eh).la:=by
      obtain ⟨k',rfl⟩: ∃ k',k=k'+1:=⟨k-1,by omega⟩;rfl
     have hlb:(((gP cs (m.du.getD (k-1) bp).rt:Nat)):Int)=(cs.getD (m.du.getD (k-1) bp).rt.toNat eh).la:=by unfold gP gq;omega
     have hB:((List.range k).map (jM c cs m)).getD ((k:Int)-1).toNat JW=⟨cs,(m.du.getD (k-1) bp).rt,(m.du.getD (k-1) bp).rt,m.sk,(m.du.getD (k-1) bp).dep,(m.du.getD (k-1) bp).dw,oT cs m (k-1),gF c cs (m.du.getD (k-1) bp).rt m.sk⟩:=by
      rw[show ((k:Int)-1).toNat=k-1 by omega,bW (by omega)];rfl
     generalize hl:(List.range k).map (jM c cs m)=l at*
     repeat' (first|with_reducible (first|refine ab ?_ ?_|exact True.intro|refine DQ ?_|assumption)|((with_reducible apply aC);first|refine iq [0,1] (hR) rfl rfl rfl rfl rfl rfl rfl rfl rfl rfl rfl rfl rfl ?_|refine an (hF) rfl ?_|refine iq [0,1] (hP) rfl rfl rfl rfl rfl rfl rfl rfl rfl rfl rfl rfl rfl ?_)|((with_reducible apply av);refine aq rfl ?_ ?_;all_goals (intro hbq;(try simp only[bq,and_true,true_and,and_false,false_and,or_true,true_or,or_false,false_or,not_true_eq_false,not_false_eq_true,Bool.true_eq_false,Bool.false_eq_true,r1,r2] at hbq);(try (exfalso;omega))))|((with_reducible apply bQ (n:=21)))|with_reducible (first|refine ay ?_|refine aD ?_)|refine RQ ?_|((with_reducible apply aL);exact fun _=>⟨rfl,rfl⟩)|((with_reducible apply bh);kernel_rfl)|omega)
     rotate_right
     ·refine Stop.mk ?_
      simp only[hB];have d0:jW c cs m k=if (gq cs (m.du.getD k bp).rt).se.getD 0 0≠(gq cs (m.du.getD (k-1) bp).rt).se.getD (gP cs (m.du.getD (k-1) bp).rt) 0 then 11 else if (m.du.getD k bp).dep<(m.du.getD (k-1) bp).dep+gF c cs (m.du.getD (k-1) bp).rt m.sk+(m.du.getD k bp).dw then 14 else 0:=by
       rw[jW,r1',if_neg (by decide),if_neg (by simpa using r2'),if_neg hk0]
      repeat' (first|with_reducible (first|exact BQ|exact VQ|refine ab ?_ ?_|exact True.intro|refine DQ ?_|assumption)|with_reducible (refine ay ?_)|((with_reducible apply av);refine aq rfl ?_ ?_;all_goals (intro hbq;(try simp only[bq] at hbq);(try (exfalso;omega))))|refine RQ ?_|((with_reducible apply db);rfl)|omega)
      ·have hd:jW c cs m k=11:=by
        have w1:(gq cs (m.du.getD k bp).rt).se.getD 0 0≠(gq cs (m.du.getD (k-1) bp).rt).se.getD (gP cs (m.du.getD (k-1) bp).rt) 0:=hbq;rw[d0,if_pos w1]
       have he:jh c cs m=11:=by rw[tz q1 q2 q3 hkl (by omega) hno,hd]
       rw[he];refine gJ rfl es2 hE2 ?_ ?_
       ·rfl
       repeat' (first|with_reducible (first|refine KQ ?_|refine ab ?_ ?_|exact True.intro)|rfl)
      ·rename_i hbq1
       have hd:jW c cs m k=14:=by
        have w1:(gq cs (m.du.getD k bp).rt).se.getD 0 0=(gq cs (m.du.getD (k-1) bp).rt).se.getD (gP cs (m.du.getD (k-1) bp).rt) 0:=hbq1;have w2:(m.du.getD k bp).dep<(m.du.getD (k-1) bp).dep+gF c cs (m.du.getD (k-1) bp).rt m.sk+(m.du.getD k bp).dw:=hbq;rw[d0,if_neg (fun e=>e w1),if_pos w2]
       have he:jh c cs m=14:=by rw[tz q1 q2 q3 hkl (by omega) hno,hd]
       rw[he];refine gJ rfl es2 hE2 ?_ ?_
       ·rfl
       repeat' (first|with_reducible (first|refine KQ ?_|refine ab ?_ ?_|exact True.intro)|rfl)
      ·rename_i hbq1
       have hd:jW c cs m k=0:=by
        have w1:(gq cs (m.du.getD k bp).rt).se.getD 0 0=(gq cs (m.du.getD (k-1) bp).rt).se.getD (gP cs (m.du.getD (k-1) bp).rt) 0:=hbq1;have w2: ¬ (m.du.getD k bp).dep<(m.du.getD (k-1) bp).dep+gF c cs (m.du.getD (k-1) bp).rt m.sk+(m.du.getD k bp).dw:=hbq;rw[d0,if_neg (fun e=>e w1),if_neg w2]
       refine az (((k+1,es2):Nat×List (List Int×tQ))) ?_ (⟨by simp only;omega,hE2,bR hno hd⟩) (by (try dsimp only);omega);refine WQ ?_ ?_<;>repeat' (first|with_reducible (first|refine KQ ?_|refine ab ?_ ?_|exact True.intro)|refine ax rfl ?_ ?_|refine cg.cons ?_ ?_|exact (rfl:known _=_)|with_reducible rfl|omega)
       ·show _=List.flatMap Dk ((List.range (k+1)).map (jM c cs m))
        rw[hnx];simp[Dk,jM,hfk,fI]
       ·show _=((List.range (k+1)).map (jM c cs m)).length
        rw[hnx];simp
     all_goals first|omega|skip
   ·have hd:jW c cs m k=s8 c cs (m.du.getD (k:Int).toNat bp).rt m.sk:=by
     have r1':Lk c (m.du.getD k bp) (decide ((k:Int)=0))=true:=r1;have r2':s8 c cs (m.du.getD k bp).rt m.sk≠0:=r2;unfold jW;rw[r1',if_neg (by decide),if_pos r2'];rfl
    have he:jh c cs m=s8 c cs (m.du.getD (k:Int).toNat bp).rt m.sk:=by rw[tz q1 q2 q3 hkl (by rw[hd];exact r2) hno,hd]
    rw[he]
    repeat' (first|with_reducible (first|refine ab ?_ ?_|exact True.intro|refine DQ ?_|assumption)|((with_reducible apply aC);first|refine iq [0,1] (hR) rfl rfl rfl rfl rfl rfl rfl rfl rfl rfl rfl rfl rfl ?_|refine an (hF) rfl ?_)|((with_reducible apply av);refine aq rfl ?_ ?_;all_goals (intro hbq;(try simp only[bq,and_true,true_and,and_false,false_and,or_true,true_or,or_false,false_or,not_true_eq_false,not_false_eq_true,Bool.true_eq_false,Bool.false_eq_true,r1,r2] at hbq);(try (exfalso;omega))))|with_reducible (first|refine ay ?_|refine aD ?_)|refine RQ ?_|((with_reducible apply aL);exact fun _=>⟨rfl,rfl⟩)|((with_reducible apply bh);kernel_rfl)|omega)
    refine gJ rfl es hE ?_ ?_
    ·rw[if_neg r2];rfl
    repeat' (first|with_reducible (first|refine KQ ?_|refine ab ?_ ?_|exact True.intro)|rfl)
  ·have hd:jW c cs m k=4:=by
    have r1':Lk c (m.du.getD k bp) (decide ((k:Int)=0))=false:=r1;unfold jW;rw[if_pos r1']
   have he:jh c cs m=4:=by rw[tz q1 q2 q3 hkl (by omega) hno,hd]
   rw[he]
   repeat' (first|with_reducible (first|refine ab ?_ ?_|exact True.intro|refine DQ ?_|assumption)|((with_reducible apply aC);refine iq [0,1] (hR) rfl rfl rfl rfl rfl rfl rfl rfl rfl rfl rfl rfl rfl ?_)|((with_reducible apply av);refine aq rfl ?_ ?_;all_goals (intro hbq;(try simp only[bq,and_true,true_and,and_false,false_and,or_true,true_or,or_false,false_or,not_true_eq_false,not_false_eq_true,Bool.true_eq_false,Bool.false_eq_true,r1] at hbq);(try (exfalso;omega))))|with_reducible (first|refine ay ?_|refine aD ?_)|refine RQ ?_|((with_reducible apply aL);exact fun _=>⟨rfl,rfl⟩)|omega)
   refine gJ rfl es hE ?_ ?_
   ·rfl
   repeat' (first|with_reducible (first|refine KQ ?_|refine ab ?_ ?_|exact True.intro)|rfl)
 ·have hke:k=m.du.length:=by omega
  subst hke;have hkp:m.du.length-1<m.du.length:=by omega
  have hfb:=uU hcs (m:=m) (k:=m.du.length-1) fun j hj=>by
   have:=ni (m5 (hno j (by omega))).1;omega
  have hb0:=ni (m5 (hno (m.du.length-1) hkp)).1;have bi:(m.du.getD (m.du.length-1) bp).rt.toNat<cs.length:=by omega
  have bS:=hcs.st _ bi;have bO:=hcs.ov _ bi;have bL:=hcs.la _ bi;have hfk:oT cs m m.du.length=oT cs m (m.du.length-1)+(cs.getD (m.du.getD (m.du.length-1) bp).rt.toNat eh).la:=by
   obtain ⟨k',hk'⟩: ∃ k',m.du.length=k'+1:=⟨m.du.length-1,by omega⟩;rw[hk'];rfl
  have hB:((List.range m.du.length).map (jM c cs m)).getD (m.du.length-1) JW=jM c cs m (m.du.length-1):=bW hkp;have hS:=H7 ((List.range m.du.length).map (jM c cs m)) (jM c cs m (m.du.length-1)) (by simp;omega) (by simp;omega) (by rw[List.length_map,List.length_range];exact hB) (by unfold jM;simp only;omega);have hS2:(jM c cs m (m.du.length-1)).fst+((jM c cs m (m.du.length-1)).cs.getD (jM c cs m (m.du.length-1)).i.toNat eh).la+1=oT cs m m.du.length+1:=by rw[hfk];rfl
  rw[hS2] at hS;have he:=JQ q1 q2 q3 hno
  repeat' (first|with_reducible (first|refine ab ?_ ?_|exact True.intro|refine DQ ?_|fail)|((with_reducible apply aC);refine an (hS) rfl ?_)|with_reducible (refine ay ?_)|((with_reducible apply av);refine aq rfl ?_ ?_;all_goals (intro hbq;(try simp only[bq] at hbq);(try (exfalso;omega))))|refine RQ ?_|fail)
  ·rw[if_pos hbq] at he
   rw[he];refine gJ rfl es hE ?_ ?_
   ·rfl
   repeat' (first|with_reducible (first|refine KQ ?_|refine ab ?_ ?_|exact True.intro)|rfl)
  ·rw[if_neg hbq] at he
   rw[he];refine gJ rfl es hE ?_ ?_
   ·rfl
   repeat' (first|with_reducible (first|refine KQ ?_|refine ab ?_ ?_|exact True.intro)|rfl)
theorem FM {d:Nat} {H:SH}: ∀ {l:SL},lk l d=none->(SS l H).sl d= .c .any
 |[],_=>rfl
 |(e,x)::l,h=>by
  unfold lk at h;split at h
  ·cases h
  ·rename_i hb
   have hne:d≠e:=fun k=>by rw[k,Nat.beq_refl] at hb;cases hb
   show dJ (SS l H).sl e _ d=_;rw[aw _ _ hne];exact FM h
theorem qP {d:Nat} {H:SH} {l:SL} (h:lk l d=none):SS l H=SS ((d,.v (.c (.c .any)))::l) H:=by
 show _=St.mk (dJ (SS l H).sl d (.c .any)) (SS l H).H;have:dJ (SS l H).sl d (.c .any)=(SS l H).sl:=by
  funext i;by_cases e:i=d
  ·subst e;rw[aG,FM h]
  ·rw[aw _ _ e]
 rw[this]
def iW (c:dO):List oq:=c.rt.map fun r=>kN c.L r.st r.ov
def Gu (s:Iq):Bool:=ic s.len s.sp s.ac s.br
def pe (c:dO) (i:Nat):Int:=cw c.L ⟨(c.rt.getD i dI).st,(c.rt.getD i dI).ov⟩
def kq (c:dO):Int:=
 if bB c.L≠0 then bB c.L else
 if 8<c.sk.length\/48<c.rt.length\/10<c.ms.length then 7 else
 if c.sk.all Gu=false then 4 else
 if i5 (pe c) c.rt.length≠0 then i5 (pe c) c.rt.length else
 i5 (fun j=>jh c (iW c) (c.ms.getD j bz)) c.ms.length
theorem C8 {c:dO} {i:Nat} (hi:i<c.rt.length):(iW c).getD i eh=kN c.L (c.rt.getD i dI).st (c.rt.getD i dI).ov:=by
 unfold iW;rw[List.getD_eq_getElem?_getD,List.getElem?_map,List.getD_eq_getElem?_getD,List.getElem?_eq_getElem hi];rfl
theorem Pa {L:bJ} (hL:bZ L) {st:List bD} {ov:Int} (h:cw L ⟨st,ov⟩=0):bZ (kN L st ov).L:=by
 obtain ⟨n1,n2,n3,n4,n5,v1,v2,v3,v4⟩:=df (C2 h);refine ⟨fun x hx=> ?_,fun x hx=> ?_,fun x hx=> ?_,Nat.le_trans n1 (by decide),Nat.le_trans n2 (by decide),Nat.le_trans n3 (by decide),Nat.le_trans n4 (by decide)⟩
 ·have:=o6 (v1 x hx);omega
 ·have:=o6 (v2 x hx);omega
 ·obtain ⟨y,hy,rfl⟩:=List.mem_map.1 hx
  have:=o6 (v3 y hy).1;omega
theorem QR {c:dO} (hc:fk c) (h: ∀ i,i<c.rt.length->pe c i=0):Lo c (iW c):=by
 have hlen:(iW c).length=c.rt.length:=by unfold iW;simp
 have key: ∀ i,i<(iW c).length->mN c.L ⟨(c.rt.getD i dI).st,(c.rt.getD i dI).ov⟩:=fun i hi=>cJ (h i (by omega))
 refine ⟨hlen,fun i hi=> ?_,fun i hi=> ?_,fun i hi=> ?_,fun i hi=> ?_,fun i hi=> ?_⟩<;>have hk:=key i hi<;>have h1:=hk.len<;>have h2:=hk.ov<;>have h3:=hk.ov0<;>have h4:=hk.two<;>simp only at h1 h2 h3 h4<;>rw[C8 (by omega)]
 ·exact Pa hc.lay (h i (by omega))
 ·have:(kN c.L (c.rt.getD i dI).st (c.rt.getD i dI).ov).st.length=(c.rt.getD i dI).st.length:=ff (ov:=(c.rt.getD i dI).ov)
  omega
 ·exact ⟨h3,h2⟩
 ·have:(kN c.L (c.rt.getD i dI).st (c.rt.getD i dI).ov).st.length=(c.rt.getD i dI).st.length:=ff (ov:=(c.rt.getD i dI).ov)
  have e:(kN c.L (c.rt.getD i dI).st (c.rt.getD i dI).ov).ov=(c.rt.getD i dI).ov:=rfl;have e2:(kN c.L (c.rt.getD i dI).st (c.rt.getD i dI).ov).la=(c.rt.getD i dI).st.length-(c.rt.getD i dI).ov-1:=rfl;omega
 ·have:(kN c.L (c.rt.getD i dI).st (c.rt.getD i dI).ov).st.length=(c.rt.getD i dI).st.length:=ff (ov:=(c.rt.getD i dI).ov)
  have e:=(yI c.L (c.rt.getD i dI).st (c.rt.getD i dI).st.length).1;have e2:(kN c.L (c.rt.getD i dI).st (c.rt.getD i dI).ov).se.length=(mF c.L (c.rt.getD i dI).st (c.rt.getD i dI).st.length).se.length:=rfl;omega
theorem rf {α:Type} {l:List α} {i:Nat} {d:α} (h:i<l.length):l.getD i d∈l:=by
 rw[List.getD_eq_getElem?_getD,List.getElem?_eq_getElem h];exact List.getElem_mem h
theorem LI {l:List Iq} {p:Iq->Bool} {i:Nat} (hi:i<l.length) (h:p (l.getD i iT)=false):l.all p=false:=by
 rw[List.getD_eq_getElem?_getD,List.getElem?_eq_getElem hi] at h;rw[Bool.eq_false_iff];intro ha;have:=List.all_eq_true.1 ha _ (List.getElem_mem hi);rw[show (some l[i]).getD iT=l[i] from rfl,this] at h;cases h
theorem IL {l:List Iq} {p:Iq->Bool} (h: ∀ j,j<l.length->p (l.getD j iT)=true):l.all p=true:=by
 rw[List.all_eq_true];intro x hx;obtain ⟨i,hi,rfl⟩:=List.mem_iff_getElem.1 hx;have:=h i hi
 rwa [List.getD_eq_getElem?_getD,List.getElem?_eq_getElem hi] at this
theorem Bv (c:dO) (hc:fk c):cd Tryz.prog 97 [gi c] [] (.cC [.c (.c .any),.c (xI (kq c))]) []:=by
 have hL:=wY c.L hc.lay;have hsk:=hc.sk;have hrt:=hc.rt;have hms:=hc.ms;unfold bK at hL
 by_cases w1:bB c.L=0
 rotate_right
 ·have he:kq c=bB c.L:=if_pos w1
  rw[he];refine PQ Tryz.func97 ?_;simp only[cu,Nat.zero_add,Nat.reduceAdd]
  repeat' (first|with_reducible (first|refine ab ?_ ?_|exact True.intro|refine DQ ?_|fail)|((with_reducible apply aC);refine an (hL) rfl ?_)|((with_reducible apply av);refine aq rfl ?_ ?_;all_goals (intro hbq;(try simp only[bq,and_true,true_and,and_false,false_and,or_true,true_or,or_false,false_or,not_true_eq_false,not_false_eq_true,Bool.true_eq_false,Bool.false_eq_true,w1] at hbq);(try (exfalso;omega))))|((with_reducible first|apply bQ (n:=3)|apply bQ (n:=5)|apply bQ (n:=10)|apply bQ (n:=18)|apply bQ (n:=26)|apply bQ (n:=29)))|with_reducible (refine ay ?_)|refine RQ ?_|fail)
  refine Stop.mk ?_;refine bC (bX ?_);refine eE rfl ?_ (fV ?_)
  ·repeat' (first|exact True.intro|apply And.intro)
  refine jR (SS [sI 3 (bB c.L)] []) ?_ ?_
  ·
   refine WQ ?_ ?_<;>repeat' (first|with_reducible (first|refine KQ ?_|exact True.intro)|refine ax rfl ?_ ?_)
  rw[qP (d:=2) rfl]
  repeat' (first|with_reducible (first|refine ab ?_ ?_|exact True.intro|refine DQ ?_|fail)|refine RQ ?_|fail)
  all_goals rfl
 rw[w1] at hL;refine PQ Tryz.func97 ?_;simp only[cu,Nat.zero_add,Nat.reduceAdd]
 repeat' (first|with_reducible (first|refine ab ?_ ?_|exact True.intro|refine DQ ?_|assumption)|((with_reducible apply aC);refine an (hL) rfl ?_)|((with_reducible first|apply bQ (n:=3)|apply bQ (n:=5)|apply bQ (n:=10)|apply bQ (n:=18)|apply bQ (n:=26)|apply bQ (n:=29)))|with_reducible (first|refine ay ?_|refine aD ?_)|((with_reducible apply av);refine aq rfl ?_ ?_;all_goals (intro hbq;(try simp only[bq] at hbq);(try (exfalso;omega))))|refine RQ ?_|(intro (hgq:(_:Bool)=true);(try simp only[bq] at hgq))|(intro (hgq:(_:Bool)=false);(try simp only[bq] at hgq))|((with_reducible apply cH);simp only[bq])|(simp only[hgq,bq];done))
 ·have he:kq c=7:=by unfold kq;rw[if_neg (by simpa using w1),if_pos (by omega)]
  rw[he];refine Stop.mk ?_;refine bC (bX ?_);refine eE rfl ?_ (fV ?_)
  ·repeat' (first|exact True.intro|apply And.intro)
  refine jR (SS [sI 3 (7)] []) ?_ ?_
  ·
   refine WQ ?_ ?_<;>repeat' (first|with_reducible (first|refine KQ ?_|exact True.intro)|refine ax rfl ?_ ?_)
  rw[qP (d:=2) rfl]
  repeat' (first|with_reducible (first|refine ab ?_ ?_|exact True.intro|refine DQ ?_|fail)|refine RQ ?_|fail)
  all_goals rfl
 have w2: ¬ (8<c.sk.length\/48<c.rt.length\/10<c.ms.length):=by omega
 refine aH (fun i:Nat=>SS [sC 1 (pB 0),sC 38 (MT c.sk),sI 39 c.sk.length,sI 40 i] [some (.cells (lZ c))]) (fun i=>i<=c.sk.length/\ ∀ j,j<i->Gu (c.sk.getD j iT)=true) (fun i=>c.sk.length-i) 0 ?_ ⟨by omega,fun j hj=>absurd hj (by omega)⟩ ?_
 ·
  refine WQ ?_ ?_<;>repeat' (first|with_reducible (first|refine KQ ?_|refine ab ?_ ?_|exact True.intro)|refine ax rfl ?_ ?_|exact (rfl:known _=_)|omega)
  all_goals skip
 rintro i ⟨hi,hno⟩;have hC:=C7 (c.sk.getD (i:Int).toNat iT).nm (c.sk.getD (i:Int).toNat iT).len (c.sk.getD (i:Int).toNat iT).sp (c.sk.getD (i:Int).toNat iT).ac (c.sk.getD (i:Int).toNat iT).br;by_cases hil:i<c.sk.length
 ·rcases Bool.eq_false_or_eq_true (Gu (c.sk.getD (i:Int).toNat iT)) with r1|r1
  ·change cd Tryz.prog _ _ [] (vB (Gu (c.sk.getD (i:Int).toNat iT))) [] at hC
   repeat' (first|with_reducible (first|refine ab ?_ ?_|exact True.intro|refine DQ ?_|assumption)|((with_reducible apply aC);refine an (hC) rfl ?_)|((with_reducible apply av);refine aq rfl ?_ ?_;all_goals (intro hbq;(try simp only[bq,and_true,true_and,and_false,false_and,or_true,true_or,or_false,false_or,not_true_eq_false,not_false_eq_true,Bool.true_eq_false,Bool.false_eq_true,r1] at hbq);(try (exfalso;omega))))|with_reducible (first|refine ay ?_|refine aD ?_)|refine RQ ?_|((with_reducible apply aL);exact fun _=>⟨rfl,rfl⟩)|omega)
   refine az (i+1) ?_ (⟨by omega,bR hno r1⟩) (by (try dsimp only);omega);refine WQ ?_ ?_<;>repeat' (first|with_reducible (first|refine KQ ?_|refine ab ?_ ?_|exact True.intro)|refine ax rfl ?_ ?_|exact (rfl:known _=_)|omega)
  ·have he:kq c=4:=by unfold kq;rw[if_neg (by simpa using w1),if_neg w2,if_pos (LI hil r1)]
   rw[he];change cd Tryz.prog _ _ [] (vB (Gu (c.sk.getD (i:Int).toNat iT))) [] at hC
   repeat' (first|with_reducible (first|refine ab ?_ ?_|exact True.intro|refine DQ ?_|assumption)|((with_reducible apply aC);refine an (hC) rfl ?_)|((with_reducible apply av);refine aq rfl ?_ ?_;all_goals (intro hbq;(try simp only[bq,and_true,true_and,and_false,false_and,or_true,true_or,or_false,false_or,not_true_eq_false,not_false_eq_true,Bool.true_eq_false,Bool.false_eq_true,r1] at hbq);(try (exfalso;omega))))|((with_reducible first|apply bQ (n:=3)|apply bQ (n:=5)|apply bQ (n:=10)|apply bQ (n:=18)|apply bQ (n:=26)|apply bQ (n:=29)))|with_reducible (first|refine ay ?_|refine aD ?_)|refine RQ ?_|((with_reducible apply aL);exact fun _=>⟨rfl,rfl⟩)|omega)
   refine Stop.mk ?_;refine bC (bX ?_);refine eE rfl ?_ (fV ?_)
   ·repeat' (first|exact True.intro|apply And.intro)
   refine jR (SS [sI 3 (4)] []) ?_ ?_
   ·
    refine WQ ?_ ?_<;>repeat' (first|with_reducible (first|refine KQ ?_|exact True.intro)|refine ax rfl ?_ ?_)
   rw[qP (d:=2) rfl]
   repeat' (first|with_reducible (first|refine ab ?_ ?_|exact True.intro|refine DQ ?_|fail)|refine RQ ?_|fail)
   all_goals rfl
 have w3:c.sk.all Gu=true:=IL fun j hj=>hno j (by omega)
 clear hC hno
 repeat' (first|with_reducible (first|refine ab ?_ ?_|exact True.intro|refine DQ ?_|fail)|with_reducible (first|refine ay ?_|refine aD ?_)|((with_reducible apply av);refine aq rfl ?_ ?_;all_goals (intro hbq;(try simp only[bq] at hbq);(try (exfalso;omega))))|refine RQ ?_|fail)
 refine aH (fun i:Nat=>SS [sC 1 (pB 0),sC 7 (pB 2),sC 53 (MS c.rt),sI 54 c.rt.length,sI 55 i] [some (.cells (lZ c)),Ft [],some (.cells [ed c.L.sts,ed c.L.pts,mJ c.L.secs,kC c.L.lnks,MT c.sk,MS c.rt,G9 c.ms,SK ((iW c).take i),.c (.mh 1),.c (.f .nils)])]) (fun i=>i<=c.rt.length/\ ∀ j,j<i->pe c j=0) (fun i=>c.rt.length-i) 0 ?_ ⟨by omega,fun j hj=>absurd hj (by omega)⟩ ?_
 ·
  refine WQ ?_ ?_<;>repeat' (first|with_reducible (first|refine KQ ?_|refine ab ?_ ?_|exact True.intro)|refine ax rfl ?_ ?_|exact aE.ah|exact (rfl:known _=_)|with_reducible rfl|omega)
  all_goals skip
  all_goals rfl
 rintro i ⟨hi,hno⟩;by_cases hil:i<c.rt.length
 ·have hb:=hc.rts _ (rf (d:=dI) hil)
  have hR:=sH c.L hc.lay (c.rt.getD (i:Int).toNat dI).st (c.rt.getD (i:Int).toNat dI).ov hb.1 hb.2;unfold bK at hR
  change cd Tryz.prog _ _ [] (vI (pe c i)) [] at hR;by_cases r1:pe c i=0
  ·have hN:=zm c.L hc.lay (c.rt.getD (i:Int).toNat dI).st (c.rt.getD (i:Int).toNat dI).ov r1
   unfold bK at hN;have hnx:(iW c).take (i+1)=(iW c).take i++[kN c.L (c.rt.getD (i:Int).toNat dI).st (c.rt.getD (i:Int).toNat dI).ov]:=by
    have hcl:i<(iW c).length:=by unfold iW;simpa using hil
    rw[List.take_succ_eq_append_getElem hcl];congr 2;have:=C8 hil;rw[List.getD_eq_getElem?_getD,List.getElem?_eq_getElem hcl] at this;exact this
   have hln:((iW c).take i).length=i:=by
    rw[List.length_take];unfold iW;rw[List.length_map];omega
   generalize (iW c).take i=cs0 at*
   repeat' (first|with_reducible (first|refine ab ?_ ?_|exact True.intro|refine DQ ?_|assumption)|((with_reducible apply aC);first|refine an (hR) rfl ?_|refine an (hN) rfl ?_)|((with_reducible apply av);refine aq rfl ?_ ?_;all_goals (intro hbq;(try simp only[bq,and_true,true_and,and_false,false_and,or_true,true_or,or_false,false_or,not_true_eq_false,not_false_eq_true,Bool.true_eq_false,Bool.false_eq_true,r1] at hbq);(try (exfalso;omega))))|with_reducible (first|refine ay ?_|refine aD ?_)|refine RQ ?_|((with_reducible apply aL);exact fun _=>⟨rfl,rfl⟩)|((with_reducible apply bh);kernel_rfl)|((with_reducible apply db);rfl)|omega)
   all_goals first|omega|skip
   refine az (i+1) ?_ (⟨by omega,bR hno r1⟩) (by (try dsimp only);omega);refine WQ ?_ ?_<;>repeat' (first|with_reducible (first|refine KQ ?_|refine ab ?_ ?_|exact True.intro)|refine ax rfl ?_ ?_|exact (rfl:known _=_)|with_reducible rfl|omega)
   ·rw[hnx]
    simp[Jm,fI]
   ·rw[hnx]
    simp
  ·have he:kq c=pe c i:=by unfold kq;rw[if_neg (by simpa using w1),if_neg w2,if_neg (by rw[w3];decide),nZ hil r1 hno,if_pos r1]
   rw[he]
   repeat' (first|with_reducible (first|refine ab ?_ ?_|exact True.intro|refine DQ ?_|assumption)|((with_reducible apply aC);refine an (hR) rfl ?_)|((with_reducible apply av);refine aq rfl ?_ ?_;all_goals (intro hbq;(try simp only[bq,and_true,true_and,and_false,false_and,or_true,true_or,or_false,false_or,not_true_eq_false,not_false_eq_true,Bool.true_eq_false,Bool.false_eq_true,r1] at hbq);(try (exfalso;omega))))|((with_reducible first|apply bQ (n:=3)|apply bQ (n:=5)|apply bQ (n:=10)|apply bQ (n:=18)|apply bQ (n:=26)|apply bQ (n:=29)))|with_reducible (first|refine ay ?_|refine aD ?_)|refine RQ ?_|((with_reducible apply aL);exact fun _=>⟨rfl,rfl⟩)|omega)
   refine Stop.mk ?_;refine bC (bX ?_);refine eE rfl ?_ (fV ?_)
   ·repeat' (first|exact True.intro|apply And.intro)
   refine jR (SS [sI 3 (pe c i)] []) ?_ ?_
   ·
    refine WQ ?_ ?_<;>repeat' (first|with_reducible (first|refine KQ ?_|exact True.intro)|refine ax rfl ?_ ?_)
   rw[qP (d:=2) rfl]
   repeat' (first|with_reducible (first|refine ab ?_ ?_|exact True.intro|refine DQ ?_|fail)|refine RQ ?_|fail)
   all_goals rfl
 have w4: ∀ j,j<c.rt.length->pe c j=0:=fun j hj=>hno j (by omega)
 have hie:i=c.rt.length:=by omega
 have htk:(iW c).take i=iW c:=List.take_of_length_le (by unfold iW;simp;omega);have hcs:=QR hc w4;rw[htk];clear hno
 repeat' (first|with_reducible (first|refine ab ?_ ?_|exact True.intro|refine DQ ?_|fail)|with_reducible (first|refine ay ?_|refine aD ?_)|((with_reducible apply av);refine aq rfl ?_ ?_;all_goals (intro hbq;(try simp only[bq] at hbq);(try (exfalso;omega))))|refine RQ ?_|fail)
 refine aH (fun x:Nat×List (List Int×tQ)×List (List v8)=>SS [sC 1 (pB 0),sC 7 (pB 2),sC 81 (G9 c.ms),sI 82 c.ms.length,sI 83 x.1] [some (.cells (lZ c)),Ft x.2.1,sX c (iW c) x.2.2]) (fun x=>(x.1<=c.ms.length/\x.2.2.length=x.1)/\CE c (iW c) x.2.1/\ ∀ j,j<x.1->jh c (iW c) (c.ms.getD j bz)=0) (fun x=>c.ms.length-x.1) (0,[],[]) ?_ ⟨⟨Nat.zero_le _,rfl⟩,⟨zt,fun r s p hp=>by simp[bP] at hp⟩,fun j hj=>absurd hj (Nat.not_lt_zero _)⟩ ?_
 ·
  refine WQ ?_ ?_<;>repeat' (first|with_reducible (first|refine KQ ?_|refine ab ?_ ?_|exact True.intro)|refine ax rfl ?_ ?_|exact (rfl:known _=_)|with_reducible rfl|omega)
  all_goals skip
  all_goals rfl
 rintro ⟨j,es,ms⟩ ⟨⟨hj,hml⟩,hE,hno⟩;simp only at hj hml hE hno⊢
 by_cases hjl:j<c.ms.length
 ·have hb:=hc.mss _ (rf (d:=bz) hjl)
  have hM:=Gz c hc (iW c) hcs ms es hE (c.ms.getD (j:Int).toNat bz) hb
  repeat' (first|with_reducible (first|refine ab ?_ ?_|exact True.intro|refine DQ ?_|assumption)|with_reducible (first|refine ay ?_|refine aD ?_)|((with_reducible apply av);refine aq rfl ?_ ?_;all_goals (intro hbq;(try simp only[bq] at hbq);(try (exfalso;omega))))|refine RQ ?_|((with_reducible apply aL);exact fun _=>⟨rfl,rfl⟩)|omega)
  all_goals skip
  refine Ew [2,1] hM rfl rfl rfl rfl rfl rfl rfl rfl ?_;rintro es' hE';refine ⟨_,_,_,_,rfl,rfl,rfl,rfl,rfl,?_⟩;by_cases r1:jh c (iW c) (c.ms.getD (j:Int).toNat bz)=0
  ·
   repeat' (first|with_reducible (first|refine ab ?_ ?_|exact True.intro|refine DQ ?_|fail)|((with_reducible apply av);refine aq rfl ?_ ?_;all_goals (intro hbq;(try simp only[bq,and_true,true_and,and_false,false_and,or_true,true_or,or_false,false_or,not_true_eq_false,not_false_eq_true,Bool.true_eq_false,Bool.false_eq_true,r1] at hbq);(try (exfalso;omega))))|with_reducible (refine ay ?_)|refine RQ ?_|((with_reducible apply db);rfl)|omega)
   all_goals first|omega|skip
   refine az (((j+1,es',ms++[(List.range (c.ms.getD j bz).du.length).map (jM c (iW c) (c.ms.getD j bz))]):Nat×List (List Int×tQ)×List (List v8))) ?_ (⟨⟨by simp only;omega,by simp only;rw[List.length_append,hml];rfl⟩,hE',bR hno r1⟩) (by (try dsimp only);omega);refine WQ ?_ ?_<;>repeat' (first|with_reducible (first|refine KQ ?_|refine ab ?_ ?_|exact True.intro)|refine ax rfl ?_ ?_|exact (rfl:known _=_)|with_reducible rfl|omega)
   ·rw[if_pos r1]
    simp[NL]
   ·simp
  ·have he:kq c=jh c (iW c) (c.ms.getD j bz):=by
    unfold kq;rw[if_neg (by simpa using w1),if_neg w2,if_neg (by rw[w3];decide),if_neg (by rw[n7 w4];simp)];exact nZ (f:=fun j=>jh c (iW c) (c.ms.getD j bz)) hjl r1 hno
   rw[he]
   repeat' (first|with_reducible (first|refine ab ?_ ?_|exact True.intro|refine DQ ?_|fail)|((with_reducible apply av);refine aq rfl ?_ ?_;all_goals (intro hbq;(try simp only[bq,and_true,true_and,and_false,false_and,or_true,true_or,or_false,false_or,not_true_eq_false,not_false_eq_true,Bool.true_eq_false,Bool.false_eq_true,r1] at hbq);(try (exfalso;omega))))|((with_reducible first|apply bQ (n:=3)|apply bQ (n:=5)|apply bQ (n:=10)|apply bQ (n:=18)|apply bQ (n:=26)|apply bQ (n:=29)))|with_reducible (refine ay ?_)|refine RQ ?_|fail)
   refine Stop.mk ?_;refine bC (bX ?_);refine eE rfl ?_ (fV ?_)
   ·repeat' (first|exact True.intro|apply And.intro)
   refine jR (SS [sI 3 (jh c (iW c) (c.ms.getD (j:Int).toNat bz))] []) ?_ ?_
   ·
    refine WQ ?_ ?_<;>repeat' (first|with_reducible (first|refine KQ ?_|exact True.intro)|refine ax rfl ?_ ?_)
   rw[qP (d:=2) rfl]
   repeat' (first|with_reducible (first|refine ab ?_ ?_|exact True.intro|refine DQ ?_|fail)|refine RQ ?_|fail)
   all_goals rfl
 have he:kq c=0:=by
  unfold kq;rw[if_neg (by simpa using w1),if_neg w2,if_neg (by rw[w3];decide),if_neg (by rw[n7 w4];simp)];exact n7 fun i hi=>hno i (by omega)
 rw[he]
 repeat' (first|with_reducible (first|refine ab ?_ ?_|exact True.intro|refine DQ ?_|fail)|((with_reducible first|apply bQ (n:=3)|apply bQ (n:=5)|apply bQ (n:=10)|apply bQ (n:=18)|apply bQ (n:=26)|apply bQ (n:=29)))|with_reducible (refine ay ?_)|((with_reducible apply av);refine aq rfl ?_ ?_;all_goals (intro hbq;(try simp only[bq] at hbq);(try (exfalso;omega))))|refine RQ ?_|fail)
 refine Stop.mk ?_;refine bC (bX ?_);refine eE rfl ?_ (fV ?_)
 ·repeat' (first|exact True.intro|apply And.intro)
 refine jR (SS [sI 3 (0)] []) ?_ ?_
 ·
  refine WQ ?_ ?_<;>repeat' (first|with_reducible (first|refine KQ ?_|exact True.intro)|refine ax rfl ?_ ?_)
 rw[qP (d:=2) rfl]
 repeat' (first|with_reducible (first|refine ab ?_ ?_|exact True.intro)|refine RQ ?_|fail)
 all_goals rfl
theorem DJ (c:dO) (hc:fk c):cd Tryz.prog 62 [gi c] [] (vI (kq c)) []:=by
 have h:=Bv c hc;unfold gi at h⊢
 refine PQ Tryz.func62 ?_;simp only[cu,Nat.zero_add,Nat.reduceAdd]
 repeat' (first|with_reducible (first|refine ab ?_ ?_|exact True.intro|refine DQ ?_|fail)|((with_reducible apply aC);refine an (h) rfl ?_)|refine RQ ?_|fail)
 all_goals rfl
def ft (c:dO) (r:Int):jV:=c.rt.getD r.toNat dI
def fG (c:dO) (t k:Nat):Lf:=(c.ms.getD t bz).du.getD k bp
theorem D0 (c:dO) (t k:Nat) (ht:t<c.ms.length) (hk:k<(c.ms.getD t bz).du.length) (hr:0<=(fG c t k).rt/\(fG c t k).rt<c.rt.length):cd Tryz.prog 61 [gi c,vI t,vI k] [] (sO (ft c (fG c t k).rt).st (ft c (fG c t k).rt).ov) []:=by
 unfold fG at hr;unfold gi;refine PQ Tryz.func61 ?_;simp only[cu,Nat.zero_add,Nat.reduceAdd]
 repeat' (first|with_reducible (first|exact BQ|exact VQ|refine ab ?_ ?_|exact True.intro)|refine RQ ?_|omega)
 all_goals first|omega|rfl|(simp only[Int.toNat_natCast];omega)
theorem GS (c:dO) (t k:Nat) (ht:t<c.ms.length) (hk:k<(c.ms.getD t bz).du.length) (hr:0<=(fG c t k).rt/\(fG c t k).rt<c.rt.length) (hl:(ft c (fG c t k).rt).st.length<=9223372036854775807) (h0:0<=(ft c (fG c t k).rt).ov/\(ft c (fG c t k).rt).ov<=(ft c (fG c t k).rt).st.length):cd Tryz.prog 30 [gi c,vI t,vI k] [] (vI ((ft c (fG c t k).rt).st.length-(ft c (fG c t k).rt).ov-1)) []:=by
 have h1:=D0 c t k ht hk hr;have h2:=qq _ (ft c (fG c t k).rt).ov hl h0;unfold gi at h1⊢
 refine PQ Tryz.func30 ?_;simp only[cu,Nat.zero_add,Nat.reduceAdd]
 repeat' (first|with_reducible (first|refine ab ?_ ?_|exact True.intro|refine DQ ?_|fail)|((with_reducible apply aC);first|refine an (h1) rfl ?_|refine an (h2) rfl ?_)|refine RQ ?_|fail)
 all_goals rfl
theorem zB (c:dO) (t k:Nat) (ht:t<c.ms.length) (hk:k<(c.ms.getD t bz).du.length) (hr:0<=(fG c t k).rt/\(fG c t k).rt<c.rt.length) (hs:0<=(c.ms.getD t bz).sk/\(c.ms.getD t bz).sk<c.sk.length) (f g a b:Int) (x y z:List Int) (v r e:Int)
  (hM:cd Tryz.prog 43 [bK c.L,sO (ft c (fG c t k).rt).st (ft c (fG c t k).rt).ov,.agg (Cv (cX c (c.ms.getD t bz).sk)),vI f,vI g] [] (.cC [.agg (kZ a b x y z v r),.c (xI e)]) []):
  cd Tryz.prog 54 [gi c,vI t,vI k,vI f,vI g] [] (.agg (kZ a b x y z v r)) []:=by
 unfold fG at hr;unfold bK at hM;unfold gi;refine PQ Tryz.func54 ?_;simp only[cu,Nat.zero_add,Nat.reduceAdd]
 repeat' (first|with_reducible (first|exact BQ|exact VQ|refine ab ?_ ?_|exact True.intro|refine DQ ?_|fail)|((with_reducible apply aC);refine an (hM) rfl ?_)|refine RQ ?_|omega)
 all_goals first|omega|rfl|(simp only[Int.toNat_natCast];omega)
theorem GK (c:dO) (t k:Nat) (ht:t<c.ms.length) (hk:k<(c.ms.getD t bz).du.length) (hr:0<=(fG c t k).rt/\(fG c t k).rt<c.rt.length) (hs:0<=(c.ms.getD t bz).sk/\(c.ms.getD t bz).sk<c.sk.length) (hl:(ft c (fG c t k).rt).st.length<=9223372036854775807) (h0:0<=(ft c (fG c t k).rt).ov/\(ft c (fG c t k).rt).ov<=(ft c (fG c t k).rt).st.length) (a b:Int) (x y z:List Int) (v r e:Int)
  (hM:cd Tryz.prog 43 [bK c.L,sO (ft c (fG c t k).rt).st (ft c (fG c t k).rt).ov,.agg (Cv (cX c (c.ms.getD t bz).sk)),vI 0,vI ((ft c (fG c t k).rt).st.length-(ft c (fG c t k).rt).ov-1)] [] (.cC [.agg (kZ a b x y z v r),.c (xI e)]) []):
  cd Tryz.prog 21 [gi c,vI t,vI k] [] (.agg (kZ a b x y z v r)) []:=by
 have h1:=GS c t k ht hk hr hl h0;have h2:=zB c t k ht hk hr hs _ _ a b x y z v r e hM;unfold gi at h1 h2⊢
 refine PQ Tryz.func21 ?_;simp only[cu,Nat.zero_add,Nat.reduceAdd]
 repeat' (first|with_reducible (first|exact BQ|refine ab ?_ ?_|exact True.intro|refine DQ ?_|fail)|((with_reducible apply aC);first|refine an (h1) rfl ?_|refine an (h2) rfl ?_)|refine RQ ?_)
 all_goals rfl
theorem ER {c:dO} {r:Int} (hr:0<=r/\r<c.rt.length):gq (iW c) r=kN c.L (ft c r).st (ft c r).ov:=C8 (by omega)
theorem pb {c:dO} (h: ∀ i,i<c.rt.length->pe c i=0) {r:Int} (hr:0<=r/\r<c.rt.length):cw c.L ⟨(ft c r).st,(ft c r).ov⟩=0:=h r.toNat (by omega)
theorem Fs {c:dO} (h: ∀ i,i<c.rt.length->pe c i=0) {r:Int} (hr:0<=r/\r<c.rt.length) (s:Int):s8 c (iW c) r s=eV c.L ⟨(ft c r).st,(ft c r).ov⟩ (cX c s).len (cX c s).sp (cX c s).ac (cX c s).br:=by
 unfold s8;rw[ER hr];exact OD (pb h hr) _ _ _ _
theorem rB {st:List bD} {ov:Int} {n:Nat} (h:(n:Int)=st.length-ov-1):dV st ov 0 n=⟨st,ov⟩:=by
 unfold dV;rw[if_pos h];rfl
theorem FI {c:dO} (h: ∀ i,i<c.rt.length->pe c i=0) {r:Int} (hr:0<=r/\r<c.rt.length) (s:Int):gF c (iW c) r s=lC c.L ⟨(ft c r).st,(ft c r).ov⟩ (cX c s).len (cX c s).sp (cX c s).ac (cX c s).br:=by
 have hk:=cJ (pb h hr);have h2:=hk.two;have h3:=hk.ov0;simp only at h2 h3
 unfold gF G6 gP;rw[ER hr];have e:dV (kN c.L (ft c r).st (ft c r).ov).st (kN c.L (ft c r).st (ft c r).ov).ov 0 (kN c.L (ft c r).st (ft c r).ov).la.toNat=cR c.L (ft c r).st (ft c r).ov:=by
  refine rB ?_;have e1:(kN c.L (ft c r).st (ft c r).ov).st.length=(ft c r).st.length:=ff (ov:=(ft c r).ov);have e2:(kN c.L (ft c r).st (ft c r).ov).la=(ft c r).st.length-(ft c r).ov-1:=rfl;have e3:(kN c.L (ft c r).st (ft c r).ov).ov=(ft c r).ov:=rfl;rw[e1,e2,e3];omega
 rw[e];exact OF (pb h hr) _ _ _ _
def s9 (c:dO) (d:fZ) (r:Rec):fZ:=
 if r.kd=8/\r.sp=0/\d.gone=false then { d with fd:=r.at_,gone:=true } else
 if r.kd=2/\r.sp=(ft c d.rt).st.length-(ft c d.rt).ov-1/\d.there_=false then { d with fa:=r.at_,there_:=true } else d
def ta (tr:List (List fZ)) (at_:Int) (r:Rec):Prop:=at_<r.at_\/r.tr<0\/(tr.length:Int)<=r.tr\/r.du<0\/((tr.getD r.tr.toNat []).length:Int)<=r.du
instance (tr:List (List fZ)) (at_:Int) (r:Rec):Decidable (ta tr at_ r):=by unfold ta;infer_instance
def vl (c:dO) (at_:Int) (tr:List (List fZ)) (r:Rec):List (List fZ):=
 if ta tr at_ r then tr else tr.set r.tr.toNat ((tr.getD r.tr.toNat []).set r.du.toNat (s9 c ((tr.getD r.tr.toNat []).getD r.du.toNat cq) r))
def ig (c:dO) (at_:Int) (tr:List (List fZ)) (x:List Rec) (n:Nat):List (List fZ):=(x.take n).foldl (vl c at_) tr
theorem ry (c:dO) (at_:Int) (tr:List (List fZ)) {x:List Rec} {n:Nat} (h:n<x.length):ig c at_ tr x (n+1)=vl c at_ (ig c at_ tr x n) (x.getD n fO):=by
 unfold ig;rw[List.take_succ_eq_append_getElem h,List.foldl_append,List.getD_eq_getElem?_getD,List.getElem?_eq_getElem h];rfl
structure Ae (c:dO) (tr:List (List fZ)):Prop where
 rt: ∀ i k,i<tr.length->k<(tr.getD i []).length->0<=((tr.getD i []).getD k cq).rt/\((tr.getD i []).getD k cq).rt<c.rt.length
theorem MH (c:dO) (d:fZ) (r:Rec):(s9 c d r).rt=d.rt:=by unfold s9;split<;>(try split)<;>rfl
theorem c9 {α:Type} {l:List α} {i j:Nat} {x d:α} (h:i<l.length):(l.set i x).getD j d=if j=i then x else l.getD j d:=by
 simp only[List.getD_eq_getElem?_getD];by_cases e:j=i
 ·subst e;rw[if_pos rfl,List.getElem?_set_self h];rfl
 ·rw[if_neg e,List.getElem?_set_ne (fun k=>e k.symm)]
theorem vm (c:dO) (at_:Int) (tr:List (List fZ)) (r:Rec):(vl c at_ tr r).length=tr.length/\ ∀ i,((vl c at_ tr r).getD i []).length=(tr.getD i []).length:=by
 unfold vl;by_cases h:ta tr at_ r
 ·rw[if_pos h];exact ⟨rfl,fun i=>rfl⟩
 ·rw[if_neg h]
  unfold ta at h;have hlt:r.tr.toNat<tr.length:=by omega
  refine ⟨by simp,fun i=> ?_⟩;rw[c9 hlt];by_cases e:i=r.tr.toNat
  ·rw[if_pos e,List.length_set,e]
  ·rw[if_neg e]
theorem MG {c:dO} {tr:List (List fZ)} (h:Ae c tr) (at_:Int) (r:Rec):Ae c (vl c at_ tr r):=by
 obtain ⟨e1,e2⟩:=vm c at_ tr r;refine ⟨fun i k hi hk=> ?_⟩;rw[e1] at hi;rw[e2] at hk;have h0:=h.rt i k hi hk;unfold vl;by_cases hs:ta tr at_ r
 ·rw[if_pos hs];exact h0
 ·rw[if_neg hs]
  unfold ta at hs;have hlt:r.tr.toNat<tr.length:=by omega
  have hlk:r.du.toNat<(tr.getD r.tr.toNat []).length:=by omega
  rw[c9 hlt];by_cases e:i=r.tr.toNat
  ·rw[if_pos e]
   rw[c9 hlk];by_cases e2:k=r.du.toNat
   ·rw[if_pos e2,MH]
    rw[e,e2] at h0;exact h0
   ·rw[if_neg e2]
    rw[e] at h0;exact h0
  ·rw[if_neg e];exact h0
theorem zq {c:dO} {tr:List (List fZ)} (h:Ae c tr) (at_:Int) (x:List Rec) (n:Nat):Ae c (ig c at_ tr x n)/\(ig c at_ tr x n).length=tr.length/\ ∀ i,((ig c at_ tr x n).getD i []).length=(tr.getD i []).length:=by
 induction n with
 |zero=>exact ⟨h,rfl,fun i=>rfl⟩
 |succ n ih=>
  by_cases hn:n<x.length
  ·rw[ry c at_ tr hn]
   obtain ⟨e1,e2⟩:=vm c at_ (ig c at_ tr x n) (x.getD n fO);exact ⟨MG ih.1 at_ _,e1.trans ih.2.1,fun i=>(e2 i).trans (ih.2.2 i)⟩
  ·have:ig c at_ tr x (n+1)=ig c at_ tr x n:=by
    unfold ig;rw[List.take_of_length_le (by omega),List.take_of_length_le (by omega)]
   rw[this];exact ih
theorem g7 {α:Type} {l:List α} {i:Nat} {d:α} (h:i<l.length):l.set i (l.getD i d)=l:=by
 rw[List.getD_eq_getElem?_getD,List.getElem?_eq_getElem h];exact List.set_getElem_self h
theorem DF (c:dO) (hc:fk c) (h4: ∀ i,i<c.rt.length->pe c i=0) (tr:List (List fZ)) (htr:Ae c tr) (hlen:tr.length<=9223372036854775807) (hrow: ∀ i,(tr.getD i []).length<=9223372036854775807) (x:List Rec) (hx:x.length<=9223372036854775807) (at_:Int):
  cd Tryz.prog 64 [gi c,.c (.c (.arr 0 0 tr.length tr.length)),.c (zE x),vI at_] [Gl tr] (.cC []) [Gl (ig c at_ tr x x.length)]:=by
 unfold gi;refine FQ Tryz.func64 ?_;simp only[cu,Nat.zero_add,Nat.reduceAdd]
 repeat' (first|with_reducible (first|refine ab ?_ ?_|exact True.intro|refine DQ ?_|fail)|with_reducible (first|refine ay ?_|refine aD ?_)|refine RQ ?_|fail)
 refine aH (fun i:Nat=>SS [sC 1 (.c (.arr 0 0 tr.length tr.length)),sI 3 at_,sC 4 (pB 1),sC 13 (zE x),sI 14 x.length,sI 15 i] [Gl (ig c at_ tr x i),some (.cells (lZ c))]) (fun i=>i<=x.length) (fun i=>x.length-i) 0 ?_ (by omega) ?_
 ·
  refine WQ ?_ ?_<;>repeat' (first|with_reducible (first|refine KQ ?_|refine ab ?_ ?_|exact True.intro)|refine ax rfl ?_ ?_|exact (rfl:known _=_)|omega)
  all_goals rfl
 intro i hi;by_cases hil:i<x.length
 ·obtain ⟨o1,o2,o3⟩:=zq htr at_ x i
  have hnx:=ry c at_ tr hil;have hr:=hrow (x.getD i fO).tr.toNat;rw[← o3] at hr
  rw[← o2] at hlen⊢;generalize ig c at_ tr x i=ti at*;by_cases hs:ta ti at_ (x.getD (i:Int).toNat fO)
  ·have hs2:=hs
   unfold ta at hs2
   repeat' (first|with_reducible (first|refine ab ?_ ?_|exact True.intro|refine DQ ?_|assumption)|with_reducible (first|refine ay ?_|refine aD ?_)|((with_reducible apply av);refine aq rfl ?_ ?_;all_goals (intro hbq;(try simp only[bq] at hbq);(try (exfalso;omega))))|refine RQ ?_|(intro (hgq:(_:Bool)=true);(try simp only[bq] at hgq))|(intro (hgq:(_:Bool)=false);(try simp only[bq] at hgq))|((with_reducible apply aL);exact fun _=>⟨rfl,rfl⟩)|((with_reducible apply bh);kernel_rfl)|((with_reducible apply cH);simp only[bq])|(simp only[hgq,bq];done)|omega)
   refine az (i+1) ?_ ((by omega)) (by (try dsimp only);omega);refine WQ ?_ ?_<;>repeat' (first|with_reducible (first|refine KQ ?_|refine ab ?_ ?_|exact True.intro)|refine ax rfl ?_ ?_|exact (rfl:known _=_)|omega)
   rw[hnx];unfold vl;exact (if_pos hs).symm
  ·have hs2:=hs
   unfold ta at hs2;have hlt:(x.getD (i:Int).toNat fO).tr.toNat<ti.length:=by omega
   have hlk:(x.getD (i:Int).toNat fO).du.toNat<(ti.getD (x.getD (i:Int).toNat fO).tr.toNat []).length:=by omega
   have hrt:=o1.rt _ _ hlt hlk;have hk1:=cJ (pb h4 hrt);have kl:=hk1.len;have k1:=hk1.ov;have k2:=hk1.two;have k3:=hk1.ov0;simp only at kl k1 k2 k3
   have hne:ti.getD (x.getD (i:Int).toNat fO).tr.toNat []≠[]:=fun e=>by rw[e] at hlk;exact absurd hlk (Nat.not_lt_zero _)
   have hnx2:ig c at_ tr x (i+1)=ti.set (x.getD (i:Int).toNat fO).tr.toNat ((ti.getD (x.getD (i:Int).toNat fO).tr.toNat []).set (x.getD (i:Int).toNat fO).du.toNat (s9 c ((ti.getD (x.getD (i:Int).toNat fO).tr.toNat []).getD (x.getD (i:Int).toNat fO).du.toNat cq) (x.getD (i:Int).toNat fO))):=by
    rw[hnx];unfold vl;exact if_neg hs
   repeat' (first|with_reducible (first|refine ab ?_ ?_|exact True.intro|refine DQ ?_|fail)|((with_reducible apply bQ (n:=3)))|with_reducible (first|refine ay ?_|refine aD ?_)|((with_reducible apply av);refine aq rfl ?_ ?_;all_goals (intro hbq;(try simp only[bq] at hbq);(try (exfalso;omega))))|refine RQ ?_|fail)
   refine Stop.mk ?_;refine bC (bX ?_);refine eE rfl ?_ (fV ?_)
   ·repeat' (first|exact True.intro|apply And.intro|omega|exact fun _=>⟨rfl,rfl⟩)
   refine D1 _ (Ex (z:=10) (F:=pV) (V:=ox) (M:=va) (d:=cq) (ls:=ti) (n:=3) 0 (x.getD (i:Int).toNat fO).tr rfl (by omega) (by omega) hne (fun _=>rfl) rfl rfl) ?_;rintro ⟨cap,hcap⟩;generalize hrw:ti.getD (x.getD (i:Int).toNat fO).tr.toNat []=wz at*
   have kk:(c.rt.getD (wz.getD (x.getD (i:Int).toNat fO).du.toNat cq).rt.toNat dI).st.length<=24/\0<=(c.rt.getD (wz.getD (x.getD (i:Int).toNat fO).du.toNat cq).rt.toNat dI).ov/\(c.rt.getD (wz.getD (x.getD (i:Int).toNat fO).du.toNat cq).rt.toNat dI).ov<=2/\0<=(wz.getD (x.getD (i:Int).toNat fO).du.toNat cq).rt/\(wz.getD (x.getD (i:Int).toNat fO).du.toNat cq).rt<c.rt.length:=⟨kl,k3,k1,hrt.1,hrt.2⟩
   repeat' (first|with_reducible (first|refine ab ?_ ?_|exact True.intro|refine DQ ?_|assumption)|with_reducible (first|refine ay ?_|refine aD ?_)|((with_reducible apply av);refine aq rfl ?_ ?_;all_goals (intro hbq;(try simp only[bq] at hbq);(try (exfalso;omega))))|refine RQ ?_|(intro (hgq:(_:Bool)=true);(try simp only[bq] at hgq))|(intro (hgq:(_:Bool)=false);(try simp only[bq] at hgq))|((with_reducible apply aL);exact fun _=>⟨rfl,rfl⟩)|((with_reducible apply bh);kernel_rfl)|((with_reducible apply cH);simp only[bq])|(simp only[hgq,bq];done)|omega)
   all_goals first|omega|(simp only[List.length_set];omega)|rfl|skip
   ·have hob:s9 c (wz.getD (x.getD (i:Int).toNat fO).du.toNat cq) (x.getD (i:Int).toNat fO)={ (wz.getD (x.getD (i:Int).toNat fO).du.toNat cq) with fd:=(x.getD (i:Int).toNat fO).at_,gone:=true }:=by
     unfold s9;rw[if_pos (by simpa[and_assoc] using hbq)]
    refine az (i+1) (pF (z:=10) (F:=pV) (V:=ox) (M:=va) (d:=cq) (ls:=ti) 3 0 (by decide) rfl rfl (by omega) (by omega) (by simp only[List.length_set]) (by simp only[List.length_set];exact hcap) (by simp only[List.length_set]) (fun _=>rfl) rfl rfl ?_) (by omega) (by omega);simp only[List.set_cons_zero,List.set_cons_succ];refine WQ ?_ ?_<;>repeat' (first|with_reducible (first|refine KQ ?_|refine ab ?_ ?_|exact True.intro)|refine ax rfl ?_ ?_|exact (rfl:known _=_)|omega)
    rw[hnx2,hob];simp only[c9 hlk,if_true,List.set_set]
   ·rename_i hb1
    have hob:s9 c (wz.getD (x.getD (i:Int).toNat fO).du.toNat cq) (x.getD (i:Int).toNat fO)={ (wz.getD (x.getD (i:Int).toNat fO).du.toNat cq) with fa:=(x.getD (i:Int).toNat fO).at_,there_:=true }:=by
     unfold s9;rw[if_neg (by rintro ⟨e1,e2,e3⟩;simp_all),if_pos (by simpa[and_assoc,ft] using hbq)]
    refine az (i+1) (pF (z:=10) (F:=pV) (V:=ox) (M:=va) (d:=cq) (ls:=ti) 3 0 (by decide) rfl rfl (by omega) (by omega) (by simp only[List.length_set]) (by simp only[List.length_set];exact hcap) (by simp only[List.length_set]) (fun _=>rfl) rfl rfl ?_) (by omega) (by omega);simp only[List.set_cons_zero,List.set_cons_succ];refine WQ ?_ ?_<;>repeat' (first|with_reducible (first|refine KQ ?_|refine ab ?_ ?_|exact True.intro)|refine ax rfl ?_ ?_|exact (rfl:known _=_)|omega)
    rw[hnx2,hob];simp only[c9 hlk,if_true,List.set_set]
   ·rename_i hb1
    have hob:s9 c (wz.getD (x.getD (i:Int).toNat fO).du.toNat cq) (x.getD (i:Int).toNat fO)=(wz.getD (x.getD (i:Int).toNat fO).du.toNat cq):=by
     unfold s9;rw[if_neg (by rintro ⟨e1,e2,e3⟩;simp_all),if_neg (by rintro ⟨e1,e2,e3⟩;simp_all [ft])]
    refine az (i+1) (pF (z:=10) (F:=pV) (V:=ox) (M:=va) (d:=cq) (ls:=ti) 3 0 (by decide) rfl rfl (by omega) (by omega) (by simp only[List.length_set]) (by simp only[List.length_set];exact hcap) (by simp only[List.length_set]) (fun _=>rfl) rfl rfl ?_) (by omega) (by omega);simp only[List.set_cons_zero,List.set_cons_succ];refine WQ ?_ ?_<;>repeat' (first|with_reducible (first|refine KQ ?_|refine ab ?_ ?_|exact True.intro)|refine ax rfl ?_ ?_|exact (rfl:known _=_)|omega)
    rw[hnx2,hob];congr 1;exact (g7 hlk).symm
 ·have hie:i=x.length:=by omega
  subst hie
  repeat' (first|with_reducible (first|refine ab ?_ ?_|exact True.intro|refine DQ ?_|fail)|with_reducible (refine ay ?_)|((with_reducible apply av);refine aq rfl ?_ ?_;all_goals (intro hbq;(try simp only[bq] at hbq);(try (exfalso;omega))))|refine RQ ?_|fail)
  ·rfl
  repeat' (first|with_reducible (first|refine KQ ?_|refine ab ?_ ?_|exact True.intro)|rfl)
structure N8 (c:dO):Prop where
 rte: ∀ i,i<c.rt.length->pe c i=0
 n:c.ms.length<=10
 sk: ∀ t,t<c.ms.length->0<=(c.ms.getD t bz).sk/\(c.ms.getD t bz).sk<c.sk.length
 du: ∀ t,t<c.ms.length->1<=(c.ms.getD t bz).du.length/\(c.ms.getD t bz).du.length<=12
 d0: ∀ t,t<c.ms.length-> ∀ k,k<(c.ms.getD t bz).du.length->jW c (iW c) (c.ms.getD t bz) k=0
theorem L1 {c:dO} (h:kq c=0):N8 c:=by
 unfold kq at h;by_cases h1:bB c.L=0
 ·rw[if_neg (by simpa using h1)] at h
  split at h
  ·cases h
  ·rename_i h2
   split at h
   ·cases h
   ·split at h
    ·rename_i h4;exact absurd h h4
    ·rename_i h4
     have h4:i5 (pe c) c.rt.length=0:=Classical.not_not.1 h4;have hm:=uR h;have key: ∀ t,t<c.ms.length-> ¬ ((c.ms.getD t bz).sk<0\/(c.sk.length:Int)<=(c.ms.getD t bz).sk)/\ ¬ (c.ms.getD t bz).du.length=0/\ ¬ 12<(c.ms.getD t bz).du.length/\i5 (jW c (iW c) (c.ms.getD t bz)) (c.ms.getD t bz).du.length=0:=fun t ht=>by
      have this:jh c (iW c) (c.ms.getD t bz)=0:=hm t ht;unfold jh at this
      split at this
      ·cases this
      ·rename_i a1
       split at this
       ·cases this
       ·rename_i a2
        split at this
        ·cases this
        ·rename_i a3
         split at this
         ·rename_i a4;exact absurd this a4
         ·rename_i a4
          exact ⟨a1,a2,a3,Classical.not_not.1 a4⟩
     exact ⟨uR h4,by omega,fun t ht=>by have:=(key t ht).1;omega,fun t ht=>by have:=key t ht;omega,fun t ht=>uR (key t ht).2.2.2⟩
 ·rw[if_pos h1] at h;exact absurd h h1
def qd (r:jV):Nat:=((r.st.length:Int)-r.ov-1).toNat
def uo (c:dO) (t k:Nat):fZ:=⟨(fG c t k).rt,(fG c t k).dep,(fG c t k).dw,((ft c (fG c t k).rt).st.getD 0 bd).sec,((ft c (fG c t k).rt).st.getD (qd (ft c (fG c t k).rt)) bd).sec,gF c (iW c) (fG c t k).rt (c.ms.getD t bz).sk,0,0,false,false⟩
def kI (c:dO) (t k:Nat):List (List fZ):=(List.range c.ms.length).map fun i=>if i<t then (List.range (c.ms.getD i bz).du.length).map (uo c i) else if i=t then (List.range k).map (uo c t) else []
theorem od (c:dO) (t k:Nat):(kI c t k).length=c.ms.length:=by unfold kI;simp
theorem Em {c:dO} {t k:Nat} (h:t<c.ms.length):(kI c t k).getD t []=(List.range k).map (uo c t):=by
 unfold kI;rw[bW h,if_neg (by omega),if_pos rfl]
theorem K2 {c:dO} {t:Nat} (h:t<c.ms.length):kI c t (c.ms.getD t bz).du.length=kI c (t+1) 0:=by
 unfold kI;refine List.map_congr_left fun i hi=> ?_
 by_cases h1:i<t
 ·rw[if_pos h1,if_pos (by omega)]
 ·by_cases h2:i=t
  ·subst h2
   rw[if_neg (by omega),if_pos rfl,if_pos (by omega)]
  ·rw[if_neg h1,if_neg h2,if_neg (by omega)]
   split<;>rfl
theorem K3 (c:dO):kI c 0 0=List.replicate c.ms.length []:=by
 unfold kI;apply List.ext_getElem
 ·simp
 ·intro i h1 h2
  simp only[List.getElem_map,List.getElem_range,List.getElem_replicate,Nat.not_lt_zero,if_false];split<;>rfl
theorem zU (c:dO) (t k i:Nat) (h:i<(kI c t k).length):(kI c t k)[i]=if i<t then (List.range (c.ms.getD i bz).du.length).map (uo c i) else if i=t then (List.range k).map (uo c t) else []:=by
 simp only[kI,List.getElem_map,List.getElem_range]
theorem Cp {c:dO} {t k:Nat} (h:t<c.ms.length):(kI c t k).set t ((List.range k).map (uo c t)++[uo c t k])=kI c t (k+1):=by
 apply List.ext_getElem
 ·rw[List.length_set,od,od]
 ·intro i h1 h2
  rw[List.getElem_set,zU];by_cases e:t=i
  ·subst e
   rw[if_pos rfl,zU,if_neg (by omega),if_pos rfl,List.range_succ,List.map_append];rfl
  ·rw[if_neg e,zU]
   by_cases h3:i<t
   ·rw[if_pos h3,if_pos h3]
   ·rw[if_neg h3,if_neg h3,if_neg (fun k=>e k.symm),if_neg (fun k=>e k.symm)]
structure Lv (c:dO) (es:List (List Int×Int)):Prop where
 ok:FA 2 es
 at_: ∀ r s v,bP es [r,s]=some v->v=gF c (iW c) r s
theorem M3 {c:dO} {es:List (List Int×Int)} (h:Lv c es) {r s:Int} (hk:bP es [r,s]=none):Lv c (Ct es [r,s] (gF c (iW c) r s)):=by
 refine ⟨vn h.ok rfl,fun r' s' v hv=> ?_⟩;rw[gS hk] at hv
 by_cases e:[r',s']=[r,s]
 ·rw[if_pos e] at hv
  injection e with e1 e;injection e with e2 e;injection hv with hv;rw[← hv,e1,e2]
 ·rw[if_neg e] at hv
  exact h.at_ r' s' v hv
structure N9 (c:dO) (at_:Int) (d:fZ):Prop where
 rt:0<=d.rt/\d.rt<c.rt.length
 dep:60<=d.dep/\d.dep<=2097152
 dw:0<=d.dw/\d.dw<=7200
 run:0<d.run/\d.run<=80001
 fst:0<=d.fst/\d.fst<c.L.secs.length
 lst:0<=d.lst/\d.lst<c.L.secs.length
 fd: -9223372036854775808<=d.fd/\d.fd<=at_
 fa: -9223372036854775808<=d.fa/\d.fa<=at_
def Qx (c:dO) (at_:Int) (tr:List (List fZ)):Prop:= ∀ i k,i<tr.length->k<(tr.getD i []).length->N9 c at_ ((tr.getD i []).getD k cq)
theorem I0 {c:dO} (hc:fk c) (h:N8 c) {at_:Int} (ha:0<=at_) {t k:Nat} (ht:t<c.ms.length) (hk:k<(c.ms.getD t bz).du.length):N9 c at_ (uo c t k):=by
 have hd:=h.d0 t ht k hk;obtain ⟨g1,g2,g3,g4,g5,g6⟩:=ni (m5 hd).1;have hr:0<=(fG c t k).rt/\(fG c t k).rt<c.rt.length:=⟨g1,g2⟩;have hk1:=cJ (pb h.rte hr);have kl:=hk1.len;have k1:=hk1.ov;have k2:=hk1.two;have k3:=hk1.ov0;simp only at kl k1 k2 k3
 have hrn:=vJ (QR hc h.rte) (r:=(fG c t k).rt) (s:=(c.ms.getD t bz).sk) ⟨hr.1,by unfold iW;rw[List.length_map];exact hr.2⟩ (m5 hd).2;have o1:=dE (dY hk1.ok (i:=0) (by simp only;omega));have o2:=dE (dY hk1.ok (i:=qd (ft c (fG c t k).rt)) (by simp only;unfold qd;omega));exact ⟨hr,⟨g3,g4⟩,⟨g5,g6⟩,hrn,⟨o1.1,o1.2.1⟩,⟨o2.1,o2.2.1⟩,⟨by show (-9223372036854775808:Int)<=0;decide,ha⟩,⟨by show (-9223372036854775808:Int)<=0;decide,ha⟩⟩
theorem K1 {c:dO} (hc:fk c) (h:N8 c) {at_:Int} (ha:0<=at_):Qx c at_ (kI c c.ms.length 0):=by
 intro i k hi hk;rw[od] at hi
 have e:(kI c c.ms.length 0).getD i []=(List.range (c.ms.getD i bz).du.length).map (uo c i):=by
  unfold kI;rw[bW hi,if_pos hi]
 rw[e] at hk⊢;rw[List.length_map,List.length_range] at hk;rw[bW hk];exact I0 hc h ha hi hk
theorem Pr {c:dO} {at_:Int} {d:fZ} {r:Rec} (h:N9 c at_ d) (h1: -9223372036854775808<=r.at_) (h2:r.at_<=at_):N9 c at_ (s9 c d r):=by
 obtain ⟨a1,a2,a3,a4,a5,a6,a7,a8⟩:=h;unfold s9;split
 ·exact ⟨a1,a2,a3,a4,a5,a6,⟨h1,h2⟩,a8⟩
 ·split
  ·exact ⟨a1,a2,a3,a4,a5,a6,a7,⟨h1,h2⟩⟩
  ·exact ⟨a1,a2,a3,a4,a5,a6,a7,a8⟩
theorem Pq {c:dO} {at_:Int} {tr:List (List fZ)} {r:Rec} (h:Qx c at_ tr) (h1: -9223372036854775808<=r.at_):Qx c at_ (vl c at_ tr r):=by
 intro i k hi hk;obtain ⟨e1,e2⟩:=vm c at_ tr r;rw[e1] at hi
 rw[e2] at hk;have h0:=h i k hi hk;unfold vl;by_cases hs:ta tr at_ r
 ·rw[if_pos hs];exact h0
 ·rw[if_neg hs]
  unfold ta at hs;have hlt:r.tr.toNat<tr.length:=by omega
  have hlk:r.du.toNat<(tr.getD r.tr.toNat []).length:=by omega
  rw[c9 hlt];by_cases e:i=r.tr.toNat
  ·rw[if_pos e,c9 hlk]
   by_cases e2:k=r.du.toNat
   ·rw[if_pos e2]
    rw[e,e2] at h0;exact Pr h0 h1 (by omega)
   ·rw[if_neg e2]
    rw[e] at h0;exact h0
  ·rw[if_neg e];exact h0
theorem JV {c:dO} {at_:Int} {tr:List (List fZ)} {x:List Rec} (h:Qx c at_ tr) (hx: ∀ r∈x,-9223372036854775808<=r.at_) (n:Nat):Qx c at_ (ig c at_ tr x n):=by
 induction n with
 |zero=>exact h
 |succ n ih=>
  by_cases hn:n<x.length
  ·rw[ry c at_ tr hn]
   exact Pq ih (hx _ (rf hn))
  ·have:ig c at_ tr x (n+1)=ig c at_ tr x n:=by
    unfold ig;rw[List.take_of_length_le (by omega),List.take_of_length_le (by omega)]
   rw[this];exact ih
def dq (at_:Int) (k:Nat) (pa:Int) (d:fZ):fZ:=
 let f:=if d.gone=true then d.fd else if 0<k then max (max d.dep (at_+1)) (pa+d.dw) else max d.dep (at_+1)
 { d with fd:=f,fa:=if d.there_=true then d.fa else max (at_+1) (f+d.run) }
def fm (at_:Int) (l:List fZ):Nat->List fZ
 |0=>l
 |k+1=>(fm at_ l k).set k (dq at_ k ((fm at_ l k).getD (k-1) cq).fa ((fm at_ l k).getD k cq))
theorem kS (at_:Int) (l:List fZ) (k:Nat):(fm at_ l k).length=l.length:=by
 induction k with
 |zero=>rfl
 |succ k ih=>unfold fm;rw[List.length_set,ih]
structure RN (c:dO) (b:Int) (d:fZ):Prop where
 rt:0<=d.rt/\d.rt<c.rt.length
 dep:60<=d.dep/\d.dep<=2097152
 dw:0<=d.dw/\d.dw<=7200
 run:0<d.run/\d.run<=80001
 fst:0<=d.fst/\d.fst<c.L.secs.length
 lst:0<=d.lst/\d.lst<c.L.secs.length
 fd: -9223372036854775808<=d.fd/\d.fd<=b
 fa: -9223372036854775808<=d.fa/\d.fa<=b
theorem uP (at_:Int) (l:List fZ) (k j:Nat) (h:k<=j) (hl:k<=l.length):(fm at_ l k).getD j cq=l.getD j cq:=by
 induction k with
 |zero=>rfl
 |succ k ih=>
  unfold fm;rw[c9 (by rw[kS];omega),if_neg (by omega),ih (by omega) (by omega)]
theorem E4 {c:dO} {at_:Int} {l:List fZ} (ha:0<=at_/\at_<=4194304) (h: ∀ k,k<l.length->N9 c at_ (l.getD k cq)) (k:Nat) (hk:k<=l.length): ∀ j,j<k->RN c (4200000+90000*(j+1)) ((fm at_ l k).getD j cq):=by
 induction k with
 |zero=>intro j hj;omega
 |succ k ih=>
  intro j hj;have ih:=ih (by omega);unfold fm;rw[c9 (by rw[kS];omega)];by_cases e:j=k
  ·rw[if_pos e]
   subst e;rw[uP at_ l j j (Nat.le_refl _) (by omega)];obtain ⟨a1,a2,a3,a4,a5,a6,a7,a8⟩:=h j (by omega);have hp:0<j->(((fm at_ l j).getD (j-1) cq).fa<=4200000+90000*j/\ -9223372036854775808<=((fm at_ l j).getD (j-1) cq).fa):=fun hj0=>by
    have:=(ih (j-1) (by omega)).fa;omega
   unfold dq;simp only;generalize ((fm at_ l j).getD (j-1) cq).fa=pa at*;generalize l.getD j cq=d at*;refine ⟨a1,a2,a3,a4,a5,a6,?_,?_⟩<;>simp only<;>(repeat' split)<;>omega
  ·rw[if_neg e]
   exact ih j (by omega)
end Go.Proofs.YtjkeeocnekggfaaGreat.Av
