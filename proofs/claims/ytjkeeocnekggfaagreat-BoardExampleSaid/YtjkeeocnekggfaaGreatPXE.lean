
import Derived.Test.YtjkeeocnekggfaaGreatPXD
set_option linter.unusedVariables false
set_option linter.unusedSimpArgs false
set_option maxRecDepth 4000
set_option maxHeartbeats 4000000
namespace Go.Proofs.YtjkeeocnekggfaaGreat
open Go.RowKit
theorem Ds:(Tryz.prog.info? 25).map (fun i=>(i.zero,i.size,i.bytes))=some (some (.slice none 0 0),1,24):=by kernel_rfl
theorem GM:(Tryz.prog.info? 241).map (fun i=>(i.zero,i.size,i.bytes))=some (some (.agg #[.int .i64 0,.int .i64 0,.int .i64 0,.int .i64 0,.int .i64 0,.int .i64 0]),6,48):=by kernel_rfl
theorem GQ {prev:List dF} {a ae b be:Int} (hne: ¬ (a=b/\ae=be)):(qK prev (a,ae)).any (dB a ae b be)=prev.any (fun j=>eU j (a,ae)&&eU j (b,be)):=by
 have key: ∀ j:dF,(eU j (a,ae)&&dB a ae b be j)=(eU j (a,ae)&&eU j (b,be)):=by
  intro j;rw[Bool.eq_iff_iff];simp[eU,dB,CC];omega
 unfold qK;rw[List.any_filter];congr 1;funext j;exact key j
structure Ie (w x:World) (n:Nat) (E:Nat->List dF) (Vs:Nat->Value) (p5 p6 p7:Nat) (k:dF):Prop where
 lH:tM w x n E Vs
 b5:hY x p5 [.int .i64 k.a,.int .i64 k.ae,.int .i64 k.b,.int .i64 k.be,.int .i64 k.pt,.int .i64 k.ps]
 b6:hY x p6 [.int .i64 k.a,.int .i64 k.ae]
 b7:hY x p7 [.int .i64 k.b,.int .i64 k.be]
theorem Ie.call {w x y:World} {n:Nat} {E:Nat->List dF} {Vs:Nat->Value} {p5 p6 p7:Nat} {k:dF} (h:Ie w x n E Vs p5 p6 p7 k) (hb:Below x.heap.size x y):Ie w y n E Vs p5 p6 p7 k:=
 ⟨h.lH.call hb,h.b5.below hb,h.b6.below hb,h.b7.below hb⟩
theorem Ie.drewN {w x:World} {n:Nat} {E:Nat->List dF} {Vs:Nat->Value} {p5 p6 p7:Nat} {k:dF} (h:Ie w x n E Vs p5 p6 p7 k) (m:Nat):Ie w (x.drewN m) n E Vs p5 p6 p7 k:=
 h.call (gu (Below.refl _ _) m)
theorem tM.PH {w x:World} {n:Nat} {E:Nat->List dF} {Vs:Nat->Value} (h:tM w x n E Vs) {i:Nat} (hi:i<n) {A:Option Addr} {c:Nat} {Ea:List dF} (hV:Vs i= .slice A Ea.length c) (hE:E i=Ea):Gb 6 lf x A Ea:=by
 have:=h.own i hi;rw[hV,hE] at this
 exact this.rd JG
set_option maxHeartbeats 1000000 in
set_option maxRecDepth 100000 in
theorem uD (V:CD) (L:bJ) (w:World) (hR:wJ w V L) (hs:L.secs.length<=96) (hl:L.lnks.length<=192):
  Calls Tryz.prog 187 #[.agg #[.slice V.A1 L.sts.length V.c1,.slice V.A2 L.pts.length V.c2,.slice V.A3 L.secs.length V.c3,.slice V.A4 L.lnks.length V.c4]] w fun e w'=>e= .returned (.int .i64 (bm L.secs.length L.pts.length [] L.lnks))/\Below w.heap.size w w':=by
 obtain ⟨A1,c1,A2,c2,A3,c3,A4,c4⟩:=V;dsimp only;obtain ⟨R,HE⟩: ∃ R,Hid (bm L.secs.length L.pts.length [] L.lnks=R):=⟨_,Lib.hid rfl⟩;rw[HE.out];obtain ⟨n,Hn⟩: ∃ n,Hid (2*L.secs.length=n):=⟨_,Lib.hid rfl⟩;have hn:n<=192:=by have:=Hn.out;omega
 have hni:2*(L.secs.length:Int)=(n:Int):=by have:=Hn.out;omega
 have hmk:=run_make_row' (P:=Tryz.prog) 368 25 (.slice none 0 0) 24 Tryz.underlying368 Ds rfl .i64 .i64 n (by omega) (by omega);obtain ⟨i0,hi,hz0,hz1,hz2⟩:=info_parts GM;have HB0:=Lib.hid (hY.new w [.slice A1 L.sts.length c1,.slice A2 L.pts.length c2,.slice A3 L.secs.length c3,.slice A4 L.lnks.length c4] 27);have Hb0:Hid (Below w.heap.size w (w.alloc (.cells #[.slice A1 L.sts.length c1,.slice A2 L.pts.length c2,.slice A3 L.secs.length c3,.slice A4 L.lnks.length c4] 27))):=Lib.hid ((Below.refl _ _).alloc (Nat.le_refl _) _);have HR0:=Lib.hid (hR.below Hb0.out);have hml:L.lnks.length<=9223372036854775807:=by omega
 clear hR;have hp0:(w.alloc (.cells #[.slice A1 L.sts.length c1,.slice A2 L.pts.length c2,.slice A3 L.secs.length c3,.slice A4 L.lnks.length c4] 27)).heap.size=w.heap.size+1:=by simp
 go_enter Tryz.func187,Tryz.ntmps187
 go_wp2
 clear hmk;generalize hw0:w.alloc (.cells #[.slice A1 L.sts.length c1,.slice A2 L.pts.length c2,.slice A3 L.secs.length c3,.slice A4 L.lnks.length c4] 27)=w0 at*
 obtain ⟨p,hp⟩: ∃ p,w.heap.size=p:=⟨_,rfl⟩;obtain ⟨r,hr⟩: ∃ r,p+1=r:=⟨_,rfl⟩;have Hr:Hid (w0.heap.size=r):=Lib.hid (by rw[hp0,hp,hr]);have HT:Hid (tM w0 (w0.alloc (.cells (madeCells #[.slice none 0 0] n) 25)) n (sU []) (fun _=> .slice none 0 0)):=Lib.hid (tM.start (World.rowIs_made w0 (.slice none 0 0) n 25) ((Below.refl _ _).alloc (Nat.le_refl _) _));have Hpr:Hid (p<r):=Lib.hid (by omega);rw[hp] at HB0;rw[hp];rw[hr];clear hw0 hp0 hr;have Hb0':Hid (Below p w w0):=Lib.hid (by rw[← hp];exact Hb0.out);clear hp;generalize w0.alloc (.cells (madeCells #[.slice none 0 0] n) 25)=w1 at*
 go_loopw [18] (fun i wr=> ∃ (k:Nat) (Vs:Nat->Value),k<=L.lnks.length/\i= .int .i64 k/\Hid (bm L.secs.length L.pts.length (L.lnks.take k) (L.lnks.drop k)=R)/\Hid (tM w0 wr n (sU (L.lnks.take k)) Vs)) (fun i _=>L.lnks.length-(intOf i).toNat)
 case atStart=>exact ⟨0,_,by omega,rfl,Lib.hid (by simpa using HE.out),HT⟩
 case round=>
  obtain ⟨k,Vs,hk,rfl,HR,HI⟩:=hrel;clear HT;have HB:=Lib.hid (HB0.out.below HI.out.bel);by_cases hlt:k<L.lnks.length
  ·obtain ⟨b4,o4,hA4,hbl,hc⟩:=(HR0.out.below HI.out.bel).r4 k hlt
   obtain rfl:A4=some ⟨b4,o4,none⟩:=hA4;obtain ⟨j,Hj⟩: ∃ j,Hid (L.lnks[k]=j):=⟨_,Lib.hid rfl⟩;have HR':Hid (bm L.secs.length L.pts.length (L.lnks.take k) (j::L.lnks.drop (k+1))=R):=Lib.hid (by rw[← Hj.out,← List.drop_eq_getElem_cons hlt];exact HR.out);have Htk:Hid (L.lnks.take (k+1)=L.lnks.take k++[j]):=Lib.hid (by rw[List.take_succ_eq_append_getElem hlt,Hj.out]);rw[Hj.out] at hc;have q0:=hc 0 _ rfl;have q1:=hc 1 _ rfl;have q2:=hc 2 _ rfl;have q3:=hc 3 _ rfl;have q4:=hc 4 _ rfl;have q5:=hc 5 _ rfl;rw[Nat.add_zero] at q0;have s0:=HB.out.2 0 _ rfl;have s1:=HB.out.2 1 _ rfl;have s2:=HB.out.2 2 _ rfl;have s3:=HB.out.2 3 _ rfl;have s4:=HB.out.1;clear hc HR Hj;have hba:Below wr.heap.size wr (wr.alloc (.cells #[.int .i64 j.a,.int .i64 j.ae,.int .i64 j.b,.int .i64 j.be,.int .i64 j.pt,.int .i64 j.ps] 241)):=(Below.refl _ _).alloc (Nat.le_refl _) _;have HI1:=Lib.hid (HI.out.call hba);have H5:=Lib.hid (hY.new wr [.int .i64 j.a,.int .i64 j.ae,.int .i64 j.b,.int .i64 j.be,.int .i64 j.pt,.int .i64 j.ps] 241);obtain ⟨p5,hp5⟩: ∃ p5,wr.heap.size=p5:=⟨_,rfl⟩;have Hold:Hid (∀ i,i<n-> ∀ q,(Vs i).ownBlock=some q->q<p5):=Lib.hid (fun i hi q hq=>by rw[← hp5];exact (HI.out.dk hi hq).2);have Hrp:Hid (r<p5):=Lib.hid (by rw[← hp5,← Hr.out];exact HI.out.row.lt);have Hp5:=Lib.hid hp5;clear hp5
   go_wp2_with fail
   refine (s7 ⟨A1,c1,A2,c2,A3,c3,some ⟨b4,o4,none⟩,c4⟩ L j _).mono ?_;rintro e w2 ⟨rfl,hb2⟩;have HI2:=Lib.hid (HI1.out.call hb2);have H52:=Lib.hid (H5.out.below hb2);rw[Hp5.out] at H52⊢
   clear hb2 HI1 H5 q0 q1 q2 q3 q4 q5 s0 s1 s2 s3 s4 hba HB hbl HI;cases hin:gv L.secs.length L.pts.length j
   ·have HF:Hid (R=4):=Lib.hid (by rw[← HR'.out];simp[bm,cN,hin])
    clear hin
    go_wp2
    go_ret
    exact ⟨cP HF.out.symm,Hb0.out.trans (HI2.out.bel.mono Hb0.out.size)⟩
   ·obtain ⟨l1,l2,l3,l4,l5,l6,l7,l8,l9,l10,l11,l12,l13⟩:=gQ hin
    have Hin:=Lib.hid hin;have H13:=Lib.hid l13;clear hin l13;have t0:=H52.out.2 0 _ rfl;have t1:=H52.out.2 1 _ rfl;have t2:=H52.out.2 2 _ rfl;have t3:=H52.out.2 3 _ rfl;have t4:=H52.out.2 4 _ rfl;have t5:=H52.out.2 5 _ rfl;have t6:=H52.out.1
    go_wp2_with fail
    refine (AV j _).mono ?_;rintro e w3 ⟨rfl,hb3⟩;have hb4:Below w3.heap.size w3 ((w3.alloc (.cells #[.int .i64 j.a,.int .i64 j.ae] 371)).alloc (.cells #[.int .i64 j.b,.int .i64 j.be] 371)):=((Below.refl _ _).alloc (Nat.le_refl _) _).alloc (by simp) _;have hb5:Below (w3.heap.size+1) (w3.alloc (.cells #[.int .i64 j.a,.int .i64 j.ae] 371)) ((w3.alloc (.cells #[.int .i64 j.a,.int .i64 j.ae] 371)).alloc (.cells #[.int .i64 j.b,.int .i64 j.be] 371)):=(Below.refl _ _).alloc (by simp) _;have HC:Hid (Ie w0 ((w3.alloc (.cells #[.int .i64 j.a,.int .i64 j.ae] 371)).alloc (.cells #[.int .i64 j.b,.int .i64 j.be] 371)) n (sU (L.lnks.take k)) Vs p5 w3.heap.size (w3.heap.size+1) j):=Lib.hid
     ⟨(HI2.out.call hb3).call hb4,(H52.out.below hb3).below hb4,(hY.new w3 [.int .i64 j.a,.int .i64 j.ae] 371).below (by simpa using hb5),(by have:=hY.new (w3.alloc (.cells #[.int .i64 j.a,.int .i64 j.ae] 371)) [.int .i64 j.b,.int .i64 j.be] 371;simpa using this)⟩
    clear hb3 hb4 hb5 HI2 H52 t0 t1 t2 t3 t4 t5 t6
    go_wp2
    obtain ⟨p6,hp6⟩: ∃ p6,w3.heap.size=p6:=⟨_,rfl⟩;obtain ⟨p7,hp7⟩: ∃ p7,p6+1=p7:=⟨_,rfl⟩;rw[hp6,hp7] at HC;rw[hp6,hp7];clear hp6 hp7;generalize (w3.alloc (.cells #[.int .i64 j.a,.int .i64 j.ae] 371)).alloc (.cells #[.int .i64 j.b,.int .i64 j.be] 371)=W3 at*;obtain ⟨ia,hia⟩:=Int.eq_ofNat_of_zero_le (show 0<=2*j.a+j.ae by omega);obtain ⟨ib,hib⟩:=Int.eq_ofNat_of_zero_le (show 0<=2*j.b+j.be by omega);have ha:ia<n:=by have:=Hn.out;omega
    have hb:ib<n:=by have:=Hn.out;omega
    have Hia:=Lib.hid hia;have Hib:=Lib.hid hib;clear hia hib;obtain ⟨Z,hZ,f,hS,hof⟩:=th (fun x=>Ie w0 x n (sU (L.lnks.take k)) Vs p5 p6 p7 j) (HC.out.drewN 1);have z0: ∀ z,(f z).cell? ⟨p6,0,none⟩=some (.int .i64 j.a):=fun z=>(hS z).b6.2 0 _ rfl
    have z1: ∀ z,(f z).cell? ⟨p6,1,none⟩=some (.int .i64 j.ae):=fun z=>(hS z).b6.2 1 _ rfl
    have z2: ∀ z,(f z).cell? ⟨p7,0,none⟩=some (.int .i64 j.b):=fun z=>(hS z).b7.2 0 _ rfl
    have z3: ∀ z,(f z).cell? ⟨p7,1,none⟩=some (.int .i64 j.be):=fun z=>(hS z).b7.2 1 _ rfl
    have HS:=Lib.hid hS;have Hof:=Lib.hid hof;clear hS hof;refine eZ (fun w'=> ∃ z:Z,w'=f z) 9 (by kernel_rfl) (by kernel_rfl) (Hof.out _ (HC.out.drewN 1)) ?_;simp only[List.take_succ_cons,List.take_zero,List.drop_succ_cons,List.drop_zero]
    (repeat (go_big_quiet_step ((go_at_call 223;first
     |with_reducible exact (xj j.a j.ae _ (by omega) (by omega) (by omega) (by omega)).mono fun e w'' ⟨he,hbb⟩=>⟨he.trans (cP Hia.out),Hof.out _ ((HS.out _).call hbb)⟩
     |with_reducible exact (xj j.b j.be _ (by omega) (by omega) (by omega) (by omega)).mono fun e w'' ⟨he,hbb⟩=>⟨he.trans (cP Hib.out),Hof.out _ ((HS.out _).call hbb)⟩))))
    refine wpQuiet_nil ?_;intro w4 hw4;obtain ⟨z4,hw4⟩:=hw4;have HC4:=Lib.hid (HS.out z4);rw[← hw4] at HC4
    clear hw4 z0 z1 z2 z3 HS Hof HC;clear hZ f Z z4;obtain ⟨Ea,HEa⟩: ∃ Ea,Hid (sU (L.lnks.take k) ia=Ea):=⟨_,Lib.hid rfl⟩;obtain ⟨Eb,HEb⟩: ∃ Eb,Hid (sU (L.lnks.take k) ib=Eb):=⟨_,Lib.hid rfl⟩;obtain ⟨Aa,ca,hVa,hca1,hca2⟩:=(HC4.out.lH.own ia ha).shape;obtain ⟨Ab,cb,hVb,hcb1,hcb2⟩:=(HC4.out.lH.own ib hb).shape;rw[HEa.out] at hVa hca1
    rw[HEb.out] at hVb hcb1;have HVa:=Lib.hid hVa;have HVb:=Lib.hid hVb;clear hVa hVb;have g0:=HC4.out.b6.2 0 _ rfl;have g1:=HC4.out.b6.2 1 _ rfl;have g2:=HC4.out.b7.2 0 _ rfl;have g3:=HC4.out.b7.2 1 _ rfl;have heq:=EY;cases hsame:CC j.a j.ae j.b j.be
    ·go_wp2
     clear g0 g1 g2 g3 heq;have hne: ¬ (j.a=j.b/\j.ae=j.be):=by simpa[CC] using hsame
     obtain ⟨J,HJ⟩: ∃ J,Hid (Ea.any (dB j.a j.ae j.b j.be)=J):=⟨_,Lib.hid rfl⟩;have Hne:=Lib.hid hne;clear hne hsame;obtain ⟨Z,hZ,f,hS,hof⟩:=th (fun x=>Ie w0 x n (sU (L.lnks.take k)) Vs p5 p6 p7 j) (HC4.out.drewN 1);have z0: ∀ z,(f z).cell? ⟨p6,0,none⟩=some (.int .i64 j.a):=fun z=>(hS z).b6.2 0 _ rfl
     have z1: ∀ z,(f z).cell? ⟨p6,1,none⟩=some (.int .i64 j.ae):=fun z=>(hS z).b6.2 1 _ rfl
     have z2: ∀ z,(f z).cell? ⟨p7,0,none⟩=some (.int .i64 j.b):=fun z=>(hS z).b7.2 0 _ rfl
     have z3: ∀ z,(f z).cell? ⟨p7,1,none⟩=some (.int .i64 j.be):=fun z=>(hS z).b7.2 1 _ rfl
     have z4: ∀ z,(f z).cell? ⟨p5,0,none⟩=some (.int .i64 j.a):=fun z=>(hS z).b5.2 0 _ rfl
     have z5: ∀ z,(f z).cell? ⟨p5,1,none⟩=some (.int .i64 j.ae):=fun z=>(hS z).b5.2 1 _ rfl
     have z6: ∀ z,(f z).cell? ⟨p5,2,none⟩=some (.int .i64 j.b):=fun z=>(hS z).b5.2 2 _ rfl
     have z7: ∀ z,(f z).cell? ⟨p5,3,none⟩=some (.int .i64 j.be):=fun z=>(hS z).b5.2 3 _ rfl
     have z8: ∀ z,(f z).cell? ⟨p5,4,none⟩=some (.int .i64 j.pt):=fun z=>(hS z).b5.2 4 _ rfl
     have z9: ∀ z,(f z).cell? ⟨p5,5,none⟩=some (.int .i64 j.ps):=fun z=>(hS z).b5.2 5 _ rfl
     have za: ∀ z,(f z).cell? ⟨r,ia,none⟩=some (.slice Aa Ea.length ca):=fun z=>by have:=(hS z).lH.row.cell (i:=ia) ha;rw[HVa.out,Hr.out] at this;exact this
     have zb: ∀ z,(f z).cell? ⟨r,ib,none⟩=some (.slice Ab Eb.length cb):=fun z=>by have:=(hS z).lH.row.cell (i:=ib) hb;rw[HVb.out,Hr.out] at this;exact this
     have HS:=Lib.hid hS;have Hof:=Lib.hid hof;clear hS hof;refine eZ (fun w'=> ∃ z:Z,w'=f z) 6 (by kernel_rfl) (by kernel_rfl) (Hof.out _ (HC4.out.drewN 1)) ?_;simp only[List.take_succ_cons,List.take_zero,List.drop_succ_cons,List.drop_zero]
     (repeat (go_big_quiet_step ((go_at_call 224;with_reducible exact (Du Aa ca Ea j.a j.ae j.b j.be _ ((HS.out _).lH.PH ha HVa.out HEa.out) (by omega)).mono fun e w'' ⟨he,hbb⟩=>⟨he.trans (aO HJ.out),Hof.out _ ((HS.out _).call hbb)⟩))))
     refine wpQuiet_nil ?_;intro w5 hw4;obtain ⟨zz,hw4⟩:=hw4;have HC5:=Lib.hid (HS.out zz);rw[← hw4] at HC5
     clear hw4 zz z0 z1 z2 z3 z4 z5 z6 z7 z8 z9 za zb HS Hof HC4 hZ f Z;have HEa':Hid (qK (L.lnks.take k) (j.a,j.ae)=Ea):=Lib.hid (by rw[← HEa.out];unfold sU;rw[AU l1 l5 l6 Hia.out]);have HEb':Hid (qK (L.lnks.take k) (j.b,j.be)=Eb):=Lib.hid (by rw[← HEb.out];unfold sU;rw[AU l3 l7 l8 Hib.out]);have HJ':Hid ((L.lnks.take k).any (fun i=>eU i (j.a,j.ae)&&eU i (j.b,j.be))=J):=Lib.hid (by rw[← GQ Hne.out,HEa'.out];exact HJ.out);have Hpair:Hid ((j.a,j.ae)≠(j.b,j.be)):=Lib.hid (fun h=>Hne.out ⟨by injection h,by injection h⟩);cases J
     ·obtain ⟨Fa,HFa⟩: ∃ Fa,Hid (pX j Ea=Fa):=⟨_,Lib.hid rfl⟩
      obtain ⟨Fb,HFb⟩: ∃ Fb,Hid (pX j Eb=Fb):=⟨_,Lib.hid rfl⟩;have HLE:Hid (cN L.secs.length L.pts.length (L.lnks.take k) j=if Fa=false\/Fb=false then 11 else 0):=Lib.hid (by
       unfold cN;rw[if_neg (by rw[Hin.out];decide),if_neg Hpair.out,if_neg (by rw[HJ'.out];decide),HEa'.out,HEb'.out,HFa.out,HFb.out])
      go_wp2
      obtain ⟨Z,hZ,f,hS,hof⟩:=th (fun x=>Ie w0 x n (sU (L.lnks.take k)) Vs p5 p6 p7 j) (HC5.out.drewN 1);have z0: ∀ z,(f z).cell? ⟨p6,0,none⟩=some (.int .i64 j.a):=fun z=>(hS z).b6.2 0 _ rfl
      have z1: ∀ z,(f z).cell? ⟨p6,1,none⟩=some (.int .i64 j.ae):=fun z=>(hS z).b6.2 1 _ rfl
      have z2: ∀ z,(f z).cell? ⟨p7,0,none⟩=some (.int .i64 j.b):=fun z=>(hS z).b7.2 0 _ rfl
      have z3: ∀ z,(f z).cell? ⟨p7,1,none⟩=some (.int .i64 j.be):=fun z=>(hS z).b7.2 1 _ rfl
      have z4: ∀ z,(f z).cell? ⟨p5,0,none⟩=some (.int .i64 j.a):=fun z=>(hS z).b5.2 0 _ rfl
      have z5: ∀ z,(f z).cell? ⟨p5,1,none⟩=some (.int .i64 j.ae):=fun z=>(hS z).b5.2 1 _ rfl
      have z6: ∀ z,(f z).cell? ⟨p5,2,none⟩=some (.int .i64 j.b):=fun z=>(hS z).b5.2 2 _ rfl
      have z7: ∀ z,(f z).cell? ⟨p5,3,none⟩=some (.int .i64 j.be):=fun z=>(hS z).b5.2 3 _ rfl
      have z8: ∀ z,(f z).cell? ⟨p5,4,none⟩=some (.int .i64 j.pt):=fun z=>(hS z).b5.2 4 _ rfl
      have z9: ∀ z,(f z).cell? ⟨p5,5,none⟩=some (.int .i64 j.ps):=fun z=>(hS z).b5.2 5 _ rfl
      have za: ∀ z,(f z).cell? ⟨r,ia,none⟩=some (.slice Aa Ea.length ca):=fun z=>by have:=(hS z).lH.row.cell (i:=ia) ha;rw[HVa.out,Hr.out] at this;exact this
      have zb: ∀ z,(f z).cell? ⟨r,ib,none⟩=some (.slice Ab Eb.length cb):=fun z=>by have:=(hS z).lH.row.cell (i:=ib) hb;rw[HVb.out,Hr.out] at this;exact this
      have HS:=Lib.hid hS;have Hof:=Lib.hid hof;clear hS hof;refine eZ (fun w'=> ∃ z:Z,w'=f z) 6 (by kernel_rfl) (by kernel_rfl) (Hof.out _ (HC5.out.drewN 1)) ?_;simp only[List.take_succ_cons,List.take_zero,List.drop_succ_cons,List.drop_zero]
      (repeat (go_big_quiet_step ((go_at_call 225;with_reducible exact (A0 j Aa ca Ea _ ((HS.out _).lH.PH ha HVa.out HEa.out) (by omega)).mono fun e w'' ⟨he,hbb⟩=>⟨he.trans (aO HFa.out),Hof.out _ ((HS.out _).call hbb)⟩))))
      refine wpQuiet_nil ?_;intro w6 hw4;obtain ⟨zz,hw4⟩:=hw4;have HC6:=Lib.hid (HS.out zz);rw[← hw4] at HC6
      clear hw4 zz z0 z1 z2 z3 z4 z5 z6 z7 z8 z9 za zb HS Hof HC5 hZ f Z;cases Fa
      ·have HF:Hid (R=11):=Lib.hid (by rw[← HR'.out];simp[bm,HLE.out])
       go_wp2
       go_ret
       exact ⟨cP HF.out.symm,Hb0.out.trans (HC6.out.lH.bel.mono Hb0.out.size)⟩
      ·go_wp2
       obtain ⟨Z,hZ,f,hS,hof⟩:=th (fun x=>Ie w0 x n (sU (L.lnks.take k)) Vs p5 p6 p7 j) (HC6.out.drewN 1);have z0: ∀ z,(f z).cell? ⟨p6,0,none⟩=some (.int .i64 j.a):=fun z=>(hS z).b6.2 0 _ rfl
       have z1: ∀ z,(f z).cell? ⟨p6,1,none⟩=some (.int .i64 j.ae):=fun z=>(hS z).b6.2 1 _ rfl
       have z2: ∀ z,(f z).cell? ⟨p7,0,none⟩=some (.int .i64 j.b):=fun z=>(hS z).b7.2 0 _ rfl
       have z3: ∀ z,(f z).cell? ⟨p7,1,none⟩=some (.int .i64 j.be):=fun z=>(hS z).b7.2 1 _ rfl
       have z4: ∀ z,(f z).cell? ⟨p5,0,none⟩=some (.int .i64 j.a):=fun z=>(hS z).b5.2 0 _ rfl
       have z5: ∀ z,(f z).cell? ⟨p5,1,none⟩=some (.int .i64 j.ae):=fun z=>(hS z).b5.2 1 _ rfl
       have z6: ∀ z,(f z).cell? ⟨p5,2,none⟩=some (.int .i64 j.b):=fun z=>(hS z).b5.2 2 _ rfl
       have z7: ∀ z,(f z).cell? ⟨p5,3,none⟩=some (.int .i64 j.be):=fun z=>(hS z).b5.2 3 _ rfl
       have z8: ∀ z,(f z).cell? ⟨p5,4,none⟩=some (.int .i64 j.pt):=fun z=>(hS z).b5.2 4 _ rfl
       have z9: ∀ z,(f z).cell? ⟨p5,5,none⟩=some (.int .i64 j.ps):=fun z=>(hS z).b5.2 5 _ rfl
       have za: ∀ z,(f z).cell? ⟨r,ia,none⟩=some (.slice Aa Ea.length ca):=fun z=>by have:=(hS z).lH.row.cell (i:=ia) ha;rw[HVa.out,Hr.out] at this;exact this
       have zb: ∀ z,(f z).cell? ⟨r,ib,none⟩=some (.slice Ab Eb.length cb):=fun z=>by have:=(hS z).lH.row.cell (i:=ib) hb;rw[HVb.out,Hr.out] at this;exact this
       have HS:=Lib.hid hS;have Hof:=Lib.hid hof;clear hS hof;refine eZ (fun w'=> ∃ z:Z,w'=f z) 6 (by kernel_rfl) (by kernel_rfl) (Hof.out _ (HC6.out.drewN 1)) ?_;simp only[List.take_succ_cons,List.take_zero,List.drop_succ_cons,List.drop_zero]
       (repeat (go_big_quiet_step ((go_at_call 225;with_reducible exact (A0 j Ab cb Eb _ ((HS.out _).lH.PH hb HVb.out HEb.out) (by omega)).mono fun e w'' ⟨he,hbb⟩=>⟨he.trans (aO HFb.out),Hof.out _ ((HS.out _).call hbb)⟩))))
       refine wpQuiet_nil ?_;intro w7 hw4;obtain ⟨zz,hw4⟩:=hw4;have HC7:=Lib.hid (HS.out zz);rw[← hw4] at HC7
       clear hw4 zz z0 z1 z2 z3 z4 z5 z6 z7 z8 z9 za zb HS Hof HC6 hZ f Z;cases Fb
       ·have HF:Hid (R=11):=Lib.hid (by rw[← HR'.out];simp[bm,HLE.out])
        go_wp2
        go_ret
        exact ⟨cP HF.out.symm,Hb0.out.trans (HC7.out.lH.bel.mono Hb0.out.size)⟩
       ·have HR2:Hid (bm L.secs.length L.pts.length (L.lnks.take (k+1)) (L.lnks.drop (k+1))=R):=Lib.hid (by rw[Htk.out,← HR'.out];simp[bm,HLE.out])
        go_wp2
        have y0:=HC7.out.b5.2 0 _ rfl;have y1:=HC7.out.b5.2 1 _ rfl;have y2:=HC7.out.b5.2 2 _ rfl;have y3:=HC7.out.b5.2 3 _ rfl;have y4:=HC7.out.b5.2 4 _ rfl;have y5:=HC7.out.b5.2 5 _ rfl;have y6:=HC7.out.b5.1;have ya:w7.cell? ⟨r,ia,none⟩=some (.slice Aa Ea.length ca):=by have:=HC7.out.lH.row.cell (i:=ia) ha;rw[HVa.out,Hr.out] at this;exact this
        have yr:r<w7.heap.size:=by have:=HC7.out.lH.row.lt;rw[Hr.out] at this;exact this
        have hEa:Ea.length<=192:=by rw[← HEa.out];unfold sU qK;have:=List.length_filter_le (fun k=>eU k (sb ia)) (L.lnks.take k);rw[List.length_take] at this;omega
        have hEb:Eb.length<=192:=by rw[← HEb.out];unfold sU qK;have:=List.length_filter_le (fun k=>eU k (sb ib)) (L.lnks.take k);rw[List.length_take] at this;omega
        have HT7:Hid (tM w0 (w7.alloc (.cells #[.int .i64 j.a,.int .i64 j.ae,.int .i64 j.b,.int .i64 j.be,.int .i64 j.pt,.int .i64 j.ps] 241)).drew n (sU (L.lnks.take k)) Vs):=Lib.hid (HC7.out.lH.call ((Below.refl _ _).alloc (Nat.le_refl _) _).drew);have Hown:Hid ((w7.alloc (.cells #[.int .i64 j.a,.int .i64 j.ae,.int .i64 j.b,.int .i64 j.be,.int .i64 j.pt,.int .i64 j.ps] 241)).drew.ownsRow (w0.heap.size+1) 241 6 (.slice Aa Ea.length ca) Ea.length (Ea.flatMap lf)):=Lib.hid (by have:=HT7.out.own ia ha;rw[HVa.out,HEa.out] at this;exact this);have Hnews:Hid (∀ j' u,(lf j)[j']? =some u->(w7.alloc (.cells #[.int .i64 j.a,.int .i64 j.ae,.int .i64 j.b,.int .i64 j.be,.int .i64 j.pt,.int .i64 j.ps] 241)).drew.cell? ((⟨w7.heap.size,0,none⟩:Addr).add j')=some u):=Lib.hid (World.news_of_block (w:=w7.alloc (.cells #[.int .i64 j.a,.int .i64 j.ae,.int .i64 j.b,.int .i64 j.be,.int .i64 j.pt,.int .i64 j.ps] 241)) (heap_alloc_new w7 _));have Hone:Hid (∀ u∈lf j,u.oneCell'=true):=Lib.hid (by intro u hu;simp[lf] at hu;rcases hu with rfl|rfl|rfl|rfl|rfl|rfl<;>rfl);have Hbase:Hid (w0.heap.size+1<=(w7.alloc (.cells #[.int .i64 j.a,.int .i64 j.ae,.int .i64 j.b,.int .i64 j.be,.int .i64 j.pt,.int .i64 j.ps] 241)).drew.heap.size):=Lib.hid (by have:=HC7.out.lH.row.lt;show _<=(w7.alloc _).heap.size;simp;omega);have Hrow:Hid (∀ w8,(w7.alloc (.cells #[.int .i64 j.a,.int .i64 j.ae,.int .i64 j.b,.int .i64 j.be,.int .i64 j.pt,.int .i64 j.ps] 241)).drew.grownBy w8 (Value.slice Aa Ea.length ca).ownBlock->w8.cell? ⟨r,ia,none⟩=some (.slice Aa Ea.length ca)/\w8.frozen? ⟨r,ia,none⟩=false):=Lib.hid (fun w8 hg=>by
         have hne:some w0.heap.size≠(Value.slice Aa Ea.length ca).ownBlock:=fun e=>by
          rw[← HVa.out] at e;have:=HT7.out.dk ha e.symm;omega
         have hrow:=HT7.out.row.of_block (hg.block _ HT7.out.row.lt hne);have h1:=hrow.cell (i:=ia) ha;have h2:=hrow.frozen ia;rw[HVa.out,Hr.out] at h1
         rw[Hr.out] at h2;exact ⟨h1,h2⟩)
        go_region_law (refine step_append_lies _ (by rfl) (.tmp 66) (.tmp 68) 25 (by rfl) (w0.heap.size+1) 241 i0 _ 6 48 Tryz.underlying25 hi hz0 hz1 hz2 rfl (by omega) (.slice Aa Ea.length ca) Ea.length (Ea.flatMap lf) (by simp[Act.eval]) Hown.out ⟨w7.heap.size,0,none⟩ 1 1 (lf j) (by simp[Act.eval]) rfl Hnews.out Hone.out (by omega) (by unfold maxLen;omega) (by omega) Hbase.out (w7.heap.size+1) (by simp) ?_;intro g8 cap8 w8 ho8 hg8 hat8 hlt8;obtain ⟨x1,x2⟩:=Hrow.out w8 hg8)
        all_goals
         have HT8:Hid (tM w0 (w8.setCell ⟨r,ia,none⟩ (.slice (some ⟨g8,0,none⟩) (Ea.length+1) cap8)) n (fun i=>if i=ia then Ea++[j] else sU (L.lnks.take k) i) (fun i=>if i=ia then .slice (some ⟨g8,0,none⟩) (Ea.length+1) cap8 else Vs i)):=Lib.hid (by
          have h:=HT7.out.put ha j (g:=g8) (cap:=cap8) (by rw[HEa.out];exact ho8) (by rw[HVa.out];exact hg8) (by rw[HVa.out];exact hat8.imp id (fun e=>by rw[e];show _=(w7.alloc _).heap.size;simp));rw[HEa.out,Hr.out] at h;exact h)
         have H58:Hid (hY (w8.setCell ⟨r,ia,none⟩ (.slice (some ⟨g8,0,none⟩) (Ea.length+1) cap8)) p5 [.int .i64 j.a,.int .i64 j.ae,.int .i64 j.b,.int .i64 j.be,.int .i64 j.pt,.int .i64 j.ps]):=Lib.hid (((HC7.out.b5.below ((Below.refl _ _).alloc (Nat.le_refl _) (.cells #[.int .i64 j.a,.int .i64 j.ae,.int .i64 j.b,.int .i64 j.be,.int .i64 j.pt,.int .i64 j.ps] 241)).drew).grown hg8 (fun e=>by rw[← HVa.out] at e;have:=Hold.out ia ha p5 e.symm;omega)).Tx (by have:=Hrp.out;show p5≠r;omega) _);clear ho8 hg8 hat8 hlt8 x1 x2 HT7 Hown Hnews Hbase Hrow HC7 y0 y1 y2 y3 y4 y5 y6 ya yr;generalize w8.setCell ⟨r,ia,none⟩ (.slice (some ⟨g8,0,none⟩) (Ea.length+1) cap8)=w9 at*
         have hab:ib≠ia:=fun e=>Hne.out (by have:=Hia.out;have:=Hib.out;omega)
         have Hab:=Lib.hid hab;clear hab;obtain ⟨V1,HV1⟩: ∃ V1,Hid ((fun i=>if i=ia then .slice (some ⟨g8,0,none⟩) (Ea.length+1) cap8 else Vs i)=V1):=⟨_,Lib.hid rfl⟩;obtain ⟨E1,HE1⟩: ∃ E1,Hid ((fun i=>if i=ia then Ea++[j] else sU (L.lnks.take k) i)=E1):=⟨_,Lib.hid rfl⟩;rw[HV1.out,HE1.out] at HT8
         have HVb1:Hid (V1 ib= .slice Ab Eb.length cb):=Lib.hid (by rw[← HV1.out];simp only[if_neg Hab.out];exact HVb.out);have HEb1:Hid (E1 ib=Eb):=Lib.hid (by rw[← HE1.out];simp only[if_neg Hab.out];exact HEb.out);have y0:=H58.out.2 0 _ rfl;have y1:=H58.out.2 1 _ rfl;have y2:=H58.out.2 2 _ rfl;have y3:=H58.out.2 3 _ rfl;have y4:=H58.out.2 4 _ rfl;have y5:=H58.out.2 5 _ rfl;have y6:=H58.out.1;have ya:w9.cell? ⟨r,ib,none⟩=some (.slice Ab Eb.length cb):=by have:=HT8.out.row.cell (i:=ib) hb;rw[HVb1.out,Hr.out] at this;exact this
         have yr:r<w9.heap.size:=by have:=HT8.out.row.lt;rw[Hr.out] at this;exact this
         have HT9:Hid (tM w0 (w9.alloc (.cells #[.int .i64 j.a,.int .i64 j.ae,.int .i64 j.b,.int .i64 j.be,.int .i64 j.pt,.int .i64 j.ps] 241)).drew n E1 V1):=Lib.hid (HT8.out.call ((Below.refl _ _).alloc (Nat.le_refl _) _).drew);have Hown:Hid ((w9.alloc (.cells #[.int .i64 j.a,.int .i64 j.ae,.int .i64 j.b,.int .i64 j.be,.int .i64 j.pt,.int .i64 j.ps] 241)).drew.ownsRow (w0.heap.size+1) 241 6 (.slice Ab Eb.length cb) Eb.length (Eb.flatMap lf)):=Lib.hid (by have:=HT9.out.own ib hb;rw[HVb1.out,HEb1.out] at this;exact this);have Hnews:Hid (∀ j' u,(lf j)[j']? =some u->(w9.alloc (.cells #[.int .i64 j.a,.int .i64 j.ae,.int .i64 j.b,.int .i64 j.be,.int .i64 j.pt,.int .i64 j.ps] 241)).drew.cell? ((⟨w9.heap.size,0,none⟩:Addr).add j')=some u):=Lib.hid (World.news_of_block (w:=w9.alloc (.cells #[.int .i64 j.a,.int .i64 j.ae,.int .i64 j.b,.int .i64 j.be,.int .i64 j.pt,.int .i64 j.ps] 241)) (heap_alloc_new w9 _));have Hbase:Hid (w0.heap.size+1<=(w9.alloc (.cells #[.int .i64 j.a,.int .i64 j.ae,.int .i64 j.b,.int .i64 j.be,.int .i64 j.pt,.int .i64 j.ps] 241)).drew.heap.size):=Lib.hid (by have:=HT8.out.row.lt;show _<=(w9.alloc _).heap.size;simp;omega);have Hrow:Hid (∀ w10,(w9.alloc (.cells #[.int .i64 j.a,.int .i64 j.ae,.int .i64 j.b,.int .i64 j.be,.int .i64 j.pt,.int .i64 j.ps] 241)).drew.grownBy w10 (Value.slice Ab Eb.length cb).ownBlock->w10.cell? ⟨r,ib,none⟩=some (.slice Ab Eb.length cb)/\w10.frozen? ⟨r,ib,none⟩=false):=Lib.hid (fun w10 hg=>by
          have hne:some w0.heap.size≠(Value.slice Ab Eb.length cb).ownBlock:=fun e=>by
           rw[← HVb1.out] at e;have:=HT9.out.dk hb e.symm;omega
          have hrow:=HT9.out.row.of_block (hg.block _ HT9.out.row.lt hne);have h1:=hrow.cell (i:=ib) hb;have h2:=hrow.frozen ib;rw[HVb1.out,Hr.out] at h1
          rw[Hr.out] at h2;exact ⟨h1,h2⟩)
         go_wp2
         go_region_law (refine step_append_lies _ (by rfl) (.tmp 74) (.tmp 76) 25 (by rfl) (w0.heap.size+1) 241 i0 _ 6 48 Tryz.underlying25 hi hz0 hz1 hz2 rfl (by omega) (.slice Ab Eb.length cb) Eb.length (Eb.flatMap lf) (by simp[Act.eval]) Hown.out ⟨w9.heap.size,0,none⟩ 1 1 (lf j) (by simp[Act.eval]) rfl Hnews.out Hone.out (by omega) (by unfold maxLen;omega) (by omega) Hbase.out (w9.heap.size+1) (by simp) ?_;intro g10 cap10 w10 ho10 hg10 hat10 hlt10;obtain ⟨x1,x2⟩:=Hrow.out w10 hg10)
         all_goals
          have HT10:Hid (∃ V2,tM w0 (w10.setCell ⟨r,ib,none⟩ (.slice (some ⟨g10,0,none⟩) (Eb.length+1) cap10)) n (sU (L.lnks.take (k+1))) V2):=Lib.hid (by
           have h:=HT9.out.put hb j (g:=g10) (cap:=cap10) (by rw[HEb1.out];exact ho10) (by rw[HVb1.out];exact hg10) (by rw[HVb1.out];exact hat10.imp id (fun e=>by rw[e];show _=(w9.alloc _).heap.size;simp));rw[HEb1.out,Hr.out] at h
           refine ⟨_,h.congr (fun i hi=> ?_)⟩;have hs:=IV (prev:=L.lnks.take k) l1 l5 l6 l3 l7 l8 Hia.out Hib.out (Ne.symm Hab.out) i;rw[if_neg Hab.out,HEa.out,HEb.out] at hs
           rw[Htk.out,← hs,← HE1.out])
          clear ho10 hg10 hat10 hlt10 x1 x2 HT9 Hown Hnews Hbase Hrow y0 y1 y2 y3 y4 y5 y6 ya yr HT8 H58;generalize w10.setCell ⟨r,ib,none⟩ (.slice (some ⟨g10,0,none⟩) (Eb.length+1) cap10)=w11 at*
          obtain ⟨V2,hT⟩:=HT10.out;have HT11:=Lib.hid hT;clear hT HT10
          go_wp2
          go_roundw
          case rel=>exact ⟨k+1,V2,by omega,by go_num,HR2,HT11⟩
          case measure=>simp[intOf];omega
     ·have HF:Hid (R=5):=Lib.hid (by
       have:cN L.secs.length L.pts.length (L.lnks.take k) j=5:=by
        unfold cN;rw[if_neg (by rw[Hin.out];decide),if_neg Hpair.out,if_pos HJ'.out]
       rw[← HR'.out];simp[bm,this])
      go_wp2
      go_ret
      exact ⟨cP HF.out.symm,Hb0.out.trans (HC5.out.lH.bel.mono Hb0.out.size)⟩
    ·have HF:Hid (R=1):=Lib.hid (by
      have:(j.a,j.ae)=(j.b,j.be):=by simp[CC] at hsame;rw[hsame.1,hsame.2]
      rw[← HR'.out];simp[bm,cN,Hin.out,this])
     go_wp2
     go_ret
     exact ⟨cP HF.out.symm,Hb0.out.trans (HC4.out.lH.bel.mono Hb0.out.size)⟩
  ·have HF:Hid (R=0):=Lib.hid (by rw[← HR.out,List.drop_of_length_le (by omega)];rfl)
   go_wp2
   go_ret
   exact ⟨cP HF.out.symm,Hb0.out.trans (HI.out.bel.mono Hb0.out.size)⟩
end Go.Proofs.YtjkeeocnekggfaaGreat
namespace Go.Proofs.YtjkeeocnekggfaaGreat
open Go.RowKit
open Go.WideMaps (keyOf_string_mk)
theorem wy (w:World):(zeroValue 4).run Tryz.prog w= .ok (.bool false) w:=by kernel_rfl
def fy (w:World) (b:Nat) (seen:List ByteArray):Prop:=
 ∃ D:DataW Unit,w.ownsMap Tryz.prog 9 (plainElem Tryz.prog 4) b seen.length D/\Maps.IsMap D/\ ∀ s:ByteArray,D.atKey (.string s.data.toList) (.lit (.bool false))= .lit (.bool (lg s seen))
theorem G2 (s x:ByteArray) (l:List ByteArray):lg s (l++[x])=(lg s l||Ad s x):=by simp[lg,List.any_append]
theorem bytes_inj {a b:ByteArray} (h:a.data.toList=b.data.toList):a=b:=by
 cases a;cases b;simp at h;rw[h]
theorem fy.new (w:World):fy (w.alloc (.map #[] 0)) w.heap.size []:=
 ⟨.map [],World.ownsMap_made w _ _ _,Maps.isMap_empty,fun s=>by simp[DataW.atKey,lg]⟩
theorem fy.of_block {w w':World} {b:Nat} {seen:List ByteArray} (h:fy w b seen) (e:w'.heap[b]? =w.heap[b]?):fy w' b seen:=by
 obtain ⟨D,⟨es,c,h1,h2⟩,h3⟩:=h;exact ⟨D,⟨es,c,e.trans h1,h2⟩,h3⟩
theorem fy.lt {w:World} {b:Nat} {seen:List ByteArray} (h:fy w b seen):b<w.heap.size:=by
 obtain ⟨D,h1,_⟩:=h;exact h1.lt
theorem o8 {e:TypeId} (he:Tryz.prog.underlying e=some .bool) {v:Value} {z:DataW Unit×List MemPlace} (h:plainElem Tryz.prog e v=some z): ∃ x,v= .bool x/\z=(.lit (.bool x),[]):=by
 unfold plainElem at h;rw[he] at h;cases v<;>simp at h
 exact ⟨_,rfl,h.symm⟩
theorem fy.look {w:World} {b:Nat} {seen:List ByteArray} (h:fy w b seen) (s:ByteArray) (hs:s.size<=maxLen):(Instr.lookup 334 (.map (some b)) (.string s) false).run Tryz.prog w= .ok (.bool (lg s seen)) w:=by
 obtain ⟨D,hown,hD,hat⟩:=h;obtain ⟨v,ps,hrun,hv⟩:=hown.lookup (Maps.string_keyed Tryz.underlying9) Tryz.underlying334 (wy w) (plainElem_bool Tryz.underlying4 false) (keyOf_string_mk Tryz.underlying9 hs);obtain ⟨x,rfl,hx⟩:=o8 Tryz.underlying4 hv;simp only[Prod.mk.injEq] at hx;have h1:=hx.1;rw[hat s] at h1;have h3:lg s seen=x:=by simpa using h1
 rw[h3];exact hrun
theorem fy.put {w:World} {b:Nat} {seen:List ByteArray} (h:fy w b seen) (s:ByteArray) (hs:s.size<=maxLen) (hn:seen.length<maxLen):
  ∃ w',(Instr.mapUpdate 334 (.map (some b)) (.string s) (.bool true)).run Tryz.prog w= .ok () w'/\fy w' b (seen++[s])/\w.grownBy w' (some b):=by
 obtain ⟨D,hown,hD,hat⟩:=h;obtain ⟨w',hrun,ho,hg⟩:=hown.update (Maps.string_keyed Tryz.underlying9) Tryz.underlying334 hn (keyOf_string_mk Tryz.underlying9 hs) (plainElem_bool Tryz.underlying4 true);refine ⟨w',hrun,⟨_,by rw[List.length_append];exact ho,hD.put _ _,fun x=> ?_⟩,hg⟩;rw[G2];by_cases hx:x=s
 ·subst hx
  rw[Maps.atKey_put_same hD ((Maps.string_keyed Tryz.underlying9).key (keyOf_string_mk (P:=Tryz.prog) Tryz.underlying9 hs)),(pU _ _).2 rfl];simp
 ·rw[Maps.atKey_put_other (fun e=>hx (bytes_inj (by simpa using e))),hat x,show Ad x s=false by rw[Bool.eq_false_iff];exact fun h=>hx ((pU _ _).1 h)];simp
theorem Bt {seen:List ByteArray} {s:ByteArray} (h:dr s=false):bG seen s=3:=by simp[bG,h]
theorem Bu {seen:List ByteArray} {s:ByteArray} (h:dr s=true) (h2:lg s seen=true):bG seen s=5:=by simp[bG,h,h2]
theorem DD {seen:List ByteArray} {s:ByteArray} (h:dr s=true) (h2:lg s seen=false):bG seen s=0:=by simp[bG,h,h2]
theorem ko (s:ByteArray) (b:Nat) (seen:List ByteArray) (w:World) (hs:s.size<=maxLen) (hM:fy w b seen) (hn:seen.length<maxLen):
  Calls Tryz.prog 185 #[.string s,.map (some b)] w fun e w'=>e= .returned (.int .i64 (bG seen s))/\(bG seen s=0->fy w' b (seen++[s]))/\w.grownBy w' (some b):=by
 have hs':s.size<=9223372036854775807:=by unfold maxLen at hs;omega
 have hgr:w.grownBy w (some b):=⟨rfl,rfl,rfl,Nat.le_refl _,fun _ _ _=>rfl⟩;have Hgr:=Lib.hid hgr;clear hgr;cases hB:dr s
 ·have HB:=Lib.hid hB
  have HE:=Lib.hid (Bt (seen:=seen) hB);clear hB hM
  go_enter Tryz.func185,Tryz.ntmps185
  go_wp2_with fail
  refine (vh s _ hs').mono ?_;rintro e w' ⟨rfl,rfl⟩;rw[HB.out]
  go_wp2
  go_ret
  exact ⟨cP HE.out.symm,fun h=>absurd h (by rw[HE.out];decide),Hgr.out⟩
 ·have hl:=hM.look s hs
  cases hD:lg s seen
  ·obtain ⟨w2,hu,hM2,hg2⟩:=hM.put s hs hn
   rw[hD] at hl;have HB:=Lib.hid hB;have HE:=Lib.hid (DD hB hD);have HM2:=Lib.hid hM2;have Hg2:=Lib.hid hg2;clear hB hD hM hM2 hg2
   go_enter Tryz.func185,Tryz.ntmps185
   go_wp2_with fail
   refine (vh s _ hs').mono ?_;rintro e w' ⟨rfl,rfl⟩;rw[HB.out]
   go_wp2
   go_ret
   exact ⟨cP HE.out.symm,fun _=>HM2.out,Hg2.out⟩
  ·rw[hD] at hl
   have HB:=Lib.hid hB;have HE:=Lib.hid (Bu hB hD);clear hB hD hM
   go_enter Tryz.func185,Tryz.ntmps185
   go_wp2_with fail
   refine (vh s _ hs').mono ?_;rintro e w' ⟨rfl,rfl⟩;rw[HB.out]
   go_wp2
   go_ret
   exact ⟨cP HE.out.symm,fun h=>absurd h (by rw[HE.out];decide),Hgr.out⟩
end Go.Proofs.YtjkeeocnekggfaaGreat
namespace Go.Proofs.YtjkeeocnekggfaaGreat
open Go.RowKit
theorem Ba (x y:Value) (w:World):(Instr.index 333 (.agg #[x,y]) (.int .i64 0)).run Tryz.prog w= .ok x w:=by kernel_rfl
theorem Bb (x y:Value) (w:World):(Instr.index 333 (.agg #[x,y]) (.int .i64 1)).run Tryz.prog w= .ok y w:=by kernel_rfl
def xJ (L:bJ):Int:=ep (cx L.sts.length [] L.secs) (bm L.secs.length L.pts.length [] L.lnks)
def sG (L:bJ):Int:=ep (aW [] L.pts) (xJ L)
theorem j8 {L:bJ} (h:24<L.sts.length\/48<L.pts.length\/96<L.secs.length\/192<L.lnks.length):bB L=7:=if_pos h
theorem Bn {L:bJ} (h: ¬ (24<L.sts.length\/48<L.pts.length\/96<L.secs.length\/192<L.lnks.length)) (h0:L.secs.length=0):bB L=1:=by
 unfold bB;rw[if_neg h,if_pos h0]
theorem GV {L:bJ} (h: ¬ (24<L.sts.length\/48<L.pts.length\/96<L.secs.length\/192<L.lnks.length)) (h0:L.secs.length≠0):bB L=ep (aW [] L.sts) (sG L):=by
 unfold bB;rw[if_neg h,if_neg h0];rfl
theorem mu (nst:Nat) (seen:List ByteArray) (s:eP) (r:List eP):cx nst seen (s::r)=if bG seen s.nm=0 then (if kD nst s=true then cx nst (seen++[s.nm]) r else 4) else bG seen s.nm:=rfl
set_option maxHeartbeats 1000000 in
set_option maxRecDepth 100000 in
theorem zj (V:CD) (L:bJ) (w:World) (hR:wJ w V L):
  Calls Tryz.prog 143 #[.agg #[.slice V.A1 L.sts.length V.c1,.slice V.A2 L.pts.length V.c2,.slice V.A3 L.secs.length V.c3,.slice V.A4 L.lnks.length V.c4]] w fun e w'=>e= .returned (.int .i64 (bB L))/\Below w.heap.size w w':=by
 obtain ⟨A1,c1,A2,c2,A3,c3,A4,c4⟩:=V;dsimp only;have i1:L.sts.length<=9223372036854775807:=hR.m1;have i2:L.pts.length<=9223372036854775807:=hR.m2;have i3:L.secs.length<=9223372036854775807:=hR.m3;have i4:L.lnks.length<=9223372036854775807:=hR.m4;obtain ⟨R,HE⟩: ∃ R,Hid (bB L=R):=⟨_,Lib.hid rfl⟩;rw[HE.out];have Hb0:Hid (Below w.heap.size w (w.alloc (.cells #[.slice A1 L.sts.length c1,.slice A2 L.pts.length c2,.slice A3 L.secs.length c3,.slice A4 L.lnks.length c4] 27))):=Lib.hid ((Below.refl _ _).alloc (Nat.le_refl _) _);by_cases h1:24<L.sts.length
 ·have HF:Hid (R=7):=Lib.hid (by rw[← HE.out];exact j8 (.inl h1))
  go_enter Tryz.func143,Tryz.ntmps143
  go_wp2
  go_ret
  exact ⟨cP HF.out.symm,Hb0.out⟩
 have d1:decide ((24:Int)<(L.sts.length:Int))=false:=by simp;omega
 by_cases h2:48<L.pts.length
 ·have HF:Hid (R=7):=Lib.hid (by rw[← HE.out];exact j8 (.inr (.inl h2)))
  go_enter Tryz.func143,Tryz.ntmps143
  go_wp2
  go_ret
  exact ⟨cP HF.out.symm,Hb0.out⟩
 have d2:decide ((48:Int)<(L.pts.length:Int))=false:=by simp;omega
 by_cases h3:96<L.secs.length
 ·have HF:Hid (R=7):=Lib.hid (by rw[← HE.out];exact j8 (.inr (.inr (.inl h3))))
  go_enter Tryz.func143,Tryz.ntmps143
  go_wp2
  go_ret
  exact ⟨cP HF.out.symm,Hb0.out⟩
 have d3:decide ((96:Int)<(L.secs.length:Int))=false:=by simp;omega
 by_cases h4:192<L.lnks.length
 ·have HF:Hid (R=7):=Lib.hid (by rw[← HE.out];exact j8 (.inr (.inr (.inr h4))))
  go_enter Tryz.func143,Tryz.ntmps143
  go_wp2
  go_ret
  exact ⟨cP HF.out.symm,Hb0.out⟩
 have d4:decide ((192:Int)<(L.lnks.length:Int))=false:=by simp;omega
 by_cases h5:L.secs.length=0
 ·have HF:Hid (R=1):=Lib.hid (by rw[← HE.out];exact Bn (by omega) h5)
  have d5:((L.secs.length:Int)==0)=true:=by rw[h5];rfl
  clear h5
  go_enter Tryz.func143,Tryz.ntmps143
  go_wp2
  go_ret
  exact ⟨cP HF.out.symm,Hb0.out⟩
 have d5:((L.secs.length:Int)==0)=false:=by rw[beq_eq_false_iff_ne];omega
 have HR1:Hid (ep (aW [] L.sts) (sG L)=R):=Lib.hid (by rw[← HE.out];exact (GV (by omega) h5).symm);have HB0:=Lib.hid (hY.new w [.slice A1 L.sts.length c1,.slice A2 L.pts.length c2,.slice A3 L.secs.length c3,.slice A4 L.lnks.length c4] 27);have HR0:=Lib.hid (hR.below Hb0.out);have hmm:= @run_makeMap Tryz.prog;have hix:=Ba;have hix1:=Bb;have n1:L.sts.length<=24:=by omega
 have n2:L.pts.length<=48:=by omega
 have n3:L.secs.length<=96:=by omega
 have n4:L.lnks.length<=192:=by omega
 have n5:1<=L.secs.length:=by omega
 clear h1 h2 h3 h4 h5 hR HE
 go_enter Tryz.func143,Tryz.ntmps143
 go_wp2
 clear d1 d2 d3 d4 d5;generalize w.alloc (.cells #[.slice A1 L.sts.length c1,.slice A2 L.pts.length c2,.slice A3 L.secs.length c3,.slice A4 L.lnks.length c4] 27)=w0 at*
 go_loopw [40] (fun i wr=> ∃ k:Nat,k<=2/\i= .int .i64 k/\Hid ((if k=0 then ep (aW [] L.sts) (sG L) else if k=1 then sG L else xJ L)=R)/\Hid (Below w0.heap.size w0 wr)) (fun i _=>2-(intOf i).toNat)
 case atStart=>exact ⟨0,by omega,rfl,Lib.hid (by simpa using HR1.out),Lib.hid (Below.refl _ _)⟩
 case round=>
  obtain ⟨k,hk,rfl,HRk,Hbr⟩:=hrel;obtain ⟨wo,rfl⟩: ∃ wo:World,wo=wr:=⟨_,rfl⟩;rcases (show k=0\/k=1\/k=2 by omega) with rfl|rfl|rfl
  ·rw[show ((0:Nat):Int)=0 from rfl]
   have HM:=Lib.hid (fy.new wo);have Hb1:Hid (Below w0.heap.size w0 (wo.alloc (.map #[] 0))):=Lib.hid (Hbr.out.alloc Hbr.out.size _);have Hbq:Hid (w0.heap.size<=wo.heap.size):=Lib.hid Hbr.out.size;have HRk':Hid (ep (aW [] L.sts) (sG L)=R):=Lib.hid (by have:=HRk.out;simpa[sG] using this);obtain ⟨E,HE⟩: ∃ E,Hid (aW [] L.sts=E):=⟨_,Lib.hid rfl⟩;rw[HE.out] at HRk'
   clear HRk
   go_wp2
   obtain ⟨bq,hbq⟩: ∃ bq,wo.heap.size=bq:=⟨_,rfl⟩;rw[hbq] at HM Hbq;rw[hbq];clear hbq Hbr;generalize wo.alloc (.map #[] 0)=w1 at*
   go_loopw [46] (fun i wr=> ∃ m:Nat,m<=L.sts.length/\i= .int .i64 m/\Hid (aW (L.sts.take m) (L.sts.drop m)=E)/\Hid (fy wr bq (L.sts.take m))/\Hid (Below w0.heap.size w0 wr)) (fun i _=>L.sts.length-(intOf i).toNat)
   case atStart=>exact ⟨0,by omega,rfl,Lib.hid (by simpa using HE.out),by simpa using HM,Hb1⟩
   case round=>
    obtain ⟨m,hm,rfl,HEm,HMm,Hbm⟩:=hrel;clear HM Hb1;by_cases hlt:m<L.sts.length
    ·obtain ⟨bs,os,hA,hbl,hc⟩:=(HR0.out.below Hbm.out).r1 m hlt
     obtain rfl:A1=some ⟨bs,os,none⟩:=hA;obtain ⟨s,Hs⟩: ∃ s,Hid (L.sts[m]=s):=⟨_,Lib.hid rfl⟩;have hsz:s.size<=maxLen:=by rw[← Hs.out];unfold maxLen;exact HR0.out.s1 _ (List.getElem_mem hlt)
     rw[Hs.out] at hc;have q0:=hc 0 _ rfl;rw[Nat.add_zero,Nat.mul_one] at q0;have HEm':Hid (aW (L.sts.take m) (s::L.sts.drop (m+1))=E):=Lib.hid (by rw[← Hs.out,← List.drop_eq_getElem_cons hlt];exact HEm.out);have Htk:Hid (L.sts.take (m+1)=L.sts.take m++[s]):=Lib.hid (by rw[List.take_succ_eq_append_getElem hlt,Hs.out]);clear hc HEm Hs
     go_wp2_with fail
     refine (ko s bq (L.sts.take m) _ hsz HMm.out (by rw[List.length_take];unfold maxLen;omega)).mono ?_;rintro e w2 ⟨rfl,hM2,hg2⟩;have Hb2:Hid (Below w0.heap.size w0 w2):=Lib.hid (Hbm.out.grown hg2 Hbm.out.size (fun q hq=>by injection hq with hq;subst hq;exact Hbq.out));obtain ⟨z,Hz⟩: ∃ z,Hid (bG (L.sts.take m) s=z):=⟨_,Lib.hid rfl⟩;rw[Hz.out] at hM2⊢
     clear hg2 q0 hbl HMm;by_cases hz:z=0
     ·subst hz
      have HM2:Hid (fy w2 bq (L.sts.take (m+1))):=Lib.hid (by rw[Htk.out];exact hM2 rfl);have HE2:Hid (aW (L.sts.take (m+1)) (L.sts.drop (m+1))=E):=Lib.hid (by rw[Htk.out,← HEm'.out];simp[aW,Hz.out]);clear hM2 Hz
      go_wp2
      go_roundw
      case rel=>exact ⟨m+1,by omega,by go_num,HE2,HM2,Hb2⟩
      case measure=>simp[intOf];omega
     ·have hzb:(z != 0)=true:=by simpa using hz
      have HF:Hid (R=z):=Lib.hid (by
       have h1:E=z:=by rw[← HEm'.out];simp[aW,Hz.out,hz]
       rw[← HRk'.out,h1];unfold ep;rw[if_neg hz])
      clear hM2 Hz hz
      go_wp2
      go_ret
      exact ⟨cP HF.out.symm,Hb0.out.trans (Hb2.out.mono Hb0.out.size)⟩
    ·have HF:Hid (sG L=R):=Lib.hid (by
      have h1:E=0:=by rw[← HEm.out,List.drop_of_length_le (by omega)];rfl
      rw[← HRk'.out,h1];rfl)
     go_wp2
     exact ⟨⟨1,by omega,rfl,Lib.hid (by simpa using HF.out),Hbm⟩,by decide⟩
  ·rw[show ((1:Nat):Int)=1 from rfl]
   have HM:=Lib.hid (fy.new wo);have Hb1:Hid (Below w0.heap.size w0 (wo.alloc (.map #[] 0))):=Lib.hid (Hbr.out.alloc Hbr.out.size _);have Hbq:Hid (w0.heap.size<=wo.heap.size):=Lib.hid Hbr.out.size;have HRk':Hid (ep (aW [] L.pts) (xJ L)=R):=Lib.hid (by have:=HRk.out;simpa[sG] using this);obtain ⟨E,HE⟩: ∃ E,Hid (aW [] L.pts=E):=⟨_,Lib.hid rfl⟩;rw[HE.out] at HRk'
   clear HRk
   go_wp2
   obtain ⟨bq,hbq⟩: ∃ bq,wo.heap.size=bq:=⟨_,rfl⟩;rw[hbq] at HM Hbq;rw[hbq];clear hbq Hbr;generalize wo.alloc (.map #[] 0)=w1 at*
   go_loopw [46] (fun i wr=> ∃ m:Nat,m<=L.pts.length/\i= .int .i64 m/\Hid (aW (L.pts.take m) (L.pts.drop m)=E)/\Hid (fy wr bq (L.pts.take m))/\Hid (Below w0.heap.size w0 wr)) (fun i _=>L.pts.length-(intOf i).toNat)
   case atStart=>exact ⟨0,by omega,rfl,Lib.hid (by simpa using HE.out),by simpa using HM,Hb1⟩
   case round=>
    obtain ⟨m,hm,rfl,HEm,HMm,Hbm⟩:=hrel;clear HM Hb1;by_cases hlt:m<L.pts.length
    ·obtain ⟨bs,os,hA,hbl,hc⟩:=(HR0.out.below Hbm.out).r2 m hlt
     obtain rfl:A2=some ⟨bs,os,none⟩:=hA;obtain ⟨s,Hs⟩: ∃ s,Hid (L.pts[m]=s):=⟨_,Lib.hid rfl⟩;have hsz:s.size<=maxLen:=by rw[← Hs.out];unfold maxLen;exact HR0.out.s2 _ (List.getElem_mem hlt)
     rw[Hs.out] at hc;have q0:=hc 0 _ rfl;rw[Nat.add_zero,Nat.mul_one] at q0;have HEm':Hid (aW (L.pts.take m) (s::L.pts.drop (m+1))=E):=Lib.hid (by rw[← Hs.out,← List.drop_eq_getElem_cons hlt];exact HEm.out);have Htk:Hid (L.pts.take (m+1)=L.pts.take m++[s]):=Lib.hid (by rw[List.take_succ_eq_append_getElem hlt,Hs.out]);clear hc HEm Hs
     go_wp2_with fail
     refine (ko s bq (L.pts.take m) _ hsz HMm.out (by rw[List.length_take];unfold maxLen;omega)).mono ?_;rintro e w2 ⟨rfl,hM2,hg2⟩;have Hb2:Hid (Below w0.heap.size w0 w2):=Lib.hid (Hbm.out.grown hg2 Hbm.out.size (fun q hq=>by injection hq with hq;subst hq;exact Hbq.out));obtain ⟨z,Hz⟩: ∃ z,Hid (bG (L.pts.take m) s=z):=⟨_,Lib.hid rfl⟩;rw[Hz.out] at hM2⊢
     clear hg2 q0 hbl HMm;by_cases hz:z=0
     ·subst hz
      have HM2:Hid (fy w2 bq (L.pts.take (m+1))):=Lib.hid (by rw[Htk.out];exact hM2 rfl);have HE2:Hid (aW (L.pts.take (m+1)) (L.pts.drop (m+1))=E):=Lib.hid (by rw[Htk.out,← HEm'.out];simp[aW,Hz.out]);clear hM2 Hz
      go_wp2
      go_roundw
      case rel=>exact ⟨m+1,by omega,by go_num,HE2,HM2,Hb2⟩
      case measure=>simp[intOf];omega
     ·have hzb:(z != 0)=true:=by simpa using hz
      have HF:Hid (R=z):=Lib.hid (by
       have h1:E=z:=by rw[← HEm'.out];simp[aW,Hz.out,hz]
       rw[← HRk'.out,h1];unfold ep;rw[if_neg hz])
      clear hM2 Hz hz
      go_wp2
      go_ret
      exact ⟨cP HF.out.symm,Hb0.out.trans (Hb2.out.mono Hb0.out.size)⟩
    ·have HF:Hid (xJ L=R):=Lib.hid (by
      have h1:E=0:=by rw[← HEm.out,List.drop_of_length_le (by omega)];rfl
      rw[← HRk'.out,h1];rfl)
     go_wp2
     exact ⟨⟨2,by omega,rfl,Lib.hid (by simpa using HF.out),Hbm⟩,by decide⟩
  ·have HRk':Hid (xJ L=R):=Lib.hid (by have:=HRk.out;simpa using this)
   rw[show ((2:Nat):Int)=2 from rfl];have HM:=Lib.hid (fy.new wo);have Hb1:Hid (Below w0.heap.size w0 (wo.alloc (.map #[] 0))):=Lib.hid (Hbr.out.alloc Hbr.out.size _);have Hbq:Hid (w0.heap.size<=wo.heap.size):=Lib.hid Hbr.out.size;obtain ⟨E,HE⟩: ∃ E,Hid (cx L.sts.length [] L.secs=E):=⟨_,Lib.hid rfl⟩;obtain ⟨T,HT⟩: ∃ T,Hid (bm L.secs.length L.pts.length [] L.lnks=T):=⟨_,Lib.hid rfl⟩;have HR2:Hid (ep E T=R):=Lib.hid (by have:=HRk'.out;unfold xJ at this;rw[HE.out,HT.out] at this;exact this);have HB:=Lib.hid (HB0.out.below Hbr.out);have s2:=HB.out.2 2 _ rfl;have s5:=HB.out.1;clear HRk HRk'
   go_wp2
   clear s2 s5 HB;obtain ⟨bq,hbq⟩: ∃ bq,wo.heap.size=bq:=⟨_,rfl⟩;rw[hbq] at HM Hbq
   rw[hbq];clear hbq Hbr;generalize wo.alloc (.map #[] 0)=w1 at*
   go_loopw [62] (fun i wr=> ∃ m:Nat,m<=L.secs.length/\i= .int .i64 m/\Hid (cx L.sts.length ((L.secs.take m).map eP.nm) (L.secs.drop m)=E)/\Hid (fy wr bq ((L.secs.take m).map eP.nm))/\Hid (Below w0.heap.size w0 wr)) (fun i _=>L.secs.length-(intOf i).toNat)
   case atStart=>exact ⟨0,by omega,rfl,Lib.hid (by simpa using HE.out),by simpa using HM,Hb1⟩
   case round=>
    obtain ⟨m,hm,rfl,HEm,HMm,Hbm⟩:=hrel;clear HM Hb1;by_cases hlt:m<L.secs.length
    ·obtain ⟨bs,os,hA,hbl,hc⟩:=(HR0.out.below Hbm.out).r3 m hlt
     obtain rfl:A3=some ⟨bs,os,none⟩:=hA;obtain ⟨s,Hs⟩: ∃ s,Hid (L.secs[m]=s):=⟨_,Lib.hid rfl⟩;have hsz:s.nm.size<=maxLen:=by rw[← Hs.out];unfold maxLen;exact HR0.out.s3 _ (List.mem_map.2 ⟨_,List.getElem_mem hlt,rfl⟩)
     rw[Hs.out] at hc;have q0:=hc 0 _ rfl;have q1:=hc 1 _ rfl;have q2:=hc 2 _ rfl;have q3:=hc 3 _ rfl;have q4:=hc 4 _ rfl;rw[Nat.add_zero] at q0;have HEm':Hid (cx L.sts.length ((L.secs.take m).map eP.nm) (s::L.secs.drop (m+1))=E):=Lib.hid (by rw[← Hs.out,← List.drop_eq_getElem_cons hlt];exact HEm.out);have Htk:Hid ((L.secs.take (m+1)).map eP.nm=(L.secs.take m).map eP.nm++[s.nm]):=Lib.hid (by rw[List.take_succ_eq_append_getElem hlt,Hs.out,List.map_append];rfl);have hba:Below wr.heap.size wr (wr.alloc (.cells #[.string s.nm,.int .i64 s.len,.int .i64 s.lim,.int .i64 s.grd,.int .i64 s.stn] 173)):=(Below.refl _ _).alloc (Nat.le_refl _) _;have HM1:=Lib.hid (HMm.out.of_block (hba.block _ HMm.out.lt));have H5:=Lib.hid (hY.new wr [.string s.nm,.int .i64 s.len,.int .i64 s.lim,.int .i64 s.grd,.int .i64 s.stn] 173);have Hb1:Hid (Below w0.heap.size w0 (wr.alloc (.cells #[.string s.nm,.int .i64 s.len,.int .i64 s.lim,.int .i64 s.grd,.int .i64 s.stn] 173))):=Lib.hid (Hbm.out.trans (hba.mono Hbm.out.size));have Hpb:Hid (bq≠wr.heap.size):=Lib.hid (by have:=HMm.out.lt;omega);clear hc HEm Hs hba
     go_wp2_with fail
     refine (ko s.nm bq ((L.secs.take m).map eP.nm) _ hsz HM1.out (by rw[List.length_map,List.length_take];unfold maxLen;omega)).mono ?_;rintro e w2 ⟨rfl,hM2,hg2⟩;have Hb2:Hid (Below w0.heap.size w0 w2):=Lib.hid (Hb1.out.grown hg2 Hb1.out.size (fun q hq=>by injection hq with hq;subst hq;exact Hbq.out));have H52:=Lib.hid (H5.out.grown hg2 (fun e=>Hpb.out (by injection e with e;exact e.symm)));obtain ⟨z,Hz⟩: ∃ z,Hid (bG ((L.secs.take m).map eP.nm) s.nm=z):=⟨_,Lib.hid rfl⟩;rw[Hz.out] at hM2⊢
     obtain ⟨p5,hp5⟩: ∃ p5,wr.heap.size=p5:=⟨_,rfl⟩;rw[hp5] at H52⊢;clear hg2 q0 q1 q2 q3 q4 hbl HMm HM1 H5 Hb1 Hpb hp5;by_cases hz:z=0
     ·subst hz
      have HM2:Hid (fy w2 bq ((L.secs.take (m+1)).map eP.nm)):=Lib.hid (by rw[Htk.out];exact hM2 rfl);have HB:=Lib.hid (HB0.out.below Hb2.out);have s0:=HB.out.2 0 _ rfl;have s1:=HB.out.2 1 _ rfl;have s2:=HB.out.2 2 _ rfl;have s3:=HB.out.2 3 _ rfl;have t0:=H52.out.2 0 _ rfl;have t1:=H52.out.2 1 _ rfl;have t2:=H52.out.2 2 _ rfl;have t3:=H52.out.2 3 _ rfl;have t4:=H52.out.2 4 _ rfl;clear hM2
      go_wp2_with fail
      refine (pg ⟨A1,c1,A2,c2,some ⟨bs,os,none⟩,c3,A4,c4⟩ L s _).mono ?_;rintro e w3 ⟨rfl,hb3⟩;have HM3:=Lib.hid (HM2.out.of_block (hb3.block _ HM2.out.lt));have Hb3:=Lib.hid (Hb2.out.trans (hb3.mono Hb2.out.size));clear hb3 s0 s1 s2 s3 t0 t1 t2 t3 t4 HB H52 HM2;cases hin:kD L.sts.length s
      ·have HF:Hid (R=4):=Lib.hid (by
        have h1:E=4:=by rw[← HEm'.out,mu,if_pos Hz.out,if_neg (by rw[hin];decide)]
        rw[← HR2.out,h1];rfl)
       clear hin
       go_wp2
       go_ret
       exact ⟨cP HF.out.symm,Hb0.out.trans (Hb3.out.mono Hb0.out.size)⟩
      ·have HE2:Hid (cx L.sts.length ((L.secs.take (m+1)).map eP.nm) (L.secs.drop (m+1))=E):=Lib.hid (by rw[Htk.out,← HEm'.out,mu,if_pos Hz.out,if_pos hin])
       clear hin
       go_wp2
       go_roundw
       case rel=>exact ⟨m+1,by omega,by go_num,HE2,HM3,Hb3⟩
       case measure=>simp[intOf];omega
     ·have hzb:(z != 0)=true:=by simpa using hz
      have HF:Hid (R=z):=Lib.hid (by
       have h1:E=z:=by rw[← HEm'.out,mu,Hz.out,if_neg hz]
       rw[← HR2.out,h1];unfold ep;rw[if_neg hz])
      clear hM2 Hz hz
      go_wp2
      go_ret
      exact ⟨cP HF.out.symm,Hb0.out.trans (Hb2.out.mono Hb0.out.size)⟩
    ·have HF:Hid (T=R):=Lib.hid (by
      have h1:E=0:=by rw[← HEm.out,List.drop_of_length_le (by omega)];rfl
      rw[← HR2.out,h1];rfl)
     have HB:=Lib.hid (HB0.out.below Hbm.out);have s0:=HB.out.2 0 _ rfl;have s1:=HB.out.2 1 _ rfl;have s2:=HB.out.2 2 _ rfl;have s3:=HB.out.2 3 _ rfl;have s5:=HB.out.1
     go_wp2_with fail
     refine (uD ⟨A1,c1,A2,c2,A3,c3,A4,c4⟩ L _ (HR0.out.below Hbm.out) (by omega) (by omega)).mono ?_;rintro e w3 ⟨rfl,hb3⟩;rw[HT.out,HF.out];have Hb3:=Lib.hid (Hbm.out.trans (hb3.mono Hbm.out.size));clear hb3
     go_wp2
     go_ret
     exact ⟨rfl,Hb0.out.trans (Hb3.out.mono Hb0.out.size)⟩
end Go.Proofs.YtjkeeocnekggfaaGreat
namespace Go.Proofs.YtjkeeocnekggfaaGreat.Av
open Go.RowKit
def LZ {α:Type} (f:α->List ag) (l:List α):aa:= .f (.row (l.flatMap f) l.length)
def I5 (L:bJ):List aa:=[LZ sY L.sts,LZ sY L.pts,LZ uN L.secs,LZ wk L.lnks]
def QJ (L:bJ):ad:= .agg (I5 L)
theorem sh {α β:Type} (f:α->List β) (n:Nat) (h: ∀ x,(f x).length=n) (l:List α):(l.flatMap f).length=l.length*n:=aK f n h l
theorem uS {α β:Type} (F:α->List β) (n:Nat) (hn: ∀ x,(F x).length=n): ∀ (l:List α) (k j:Nat) (hk:k<l.length) (hj:j<n),(l.flatMap F)[k*n+j]? =(F l[k])[j]?
 |x::l,0,j,_,hj=>by
  simp only[List.flatMap_cons,Nat.zero_mul,Nat.zero_add,List.getElem_cons_zero];rw[List.getElem?_append_left (by rw[hn];exact hj)]
 |x::l,k+1,j,hk,hj=>by
  simp only[List.flatMap_cons,List.getElem_cons_succ];have e:(k+1)*n+j=n+(k*n+j):=by rw[Nat.succ_mul];omega
  rw[e,List.getElem?_append_right (by rw[hn];omega),hn,Nat.add_sub_cancel_left];exact uS F n hn l k j (by simpa using hk) hj
theorem mj {α:Type} (n:Nat) (f:α->List Value) (F:α->List ag) (hF: ∀ x,F x=(f x).map ag.v) (hn: ∀ x,(f x).length=n) (hpos:0<n) {w:World} {κ:Nat->BK} {l:List α} {v:Value} (h:cy w κ (.row (l.flatMap F) l.length) v):
  ∃ A c,v= .slice A l.length c/\Gb n f w A l/\l.length<=c:=by
 have hnF: ∀ x,(F x).length=n:=fun x=>by rw[hF,List.length_map,hn]
 rcases vD.1 h with ⟨g,o,cap,rfl,hle,hrow⟩|⟨h1,h2,A,rfl⟩
 ·refine ⟨_,cap,rfl,fun k hk=>⟨g,o,rfl,?_,fun j u hj=> ?_⟩,hle⟩
  ·refine (hrow.fits fun e=> ?_).1
   have:=sh F n hnF l;rw[e] at this
   have h0:0<l.length*n:=Nat.mul_pos (by omega) hpos;simp at this;omega
  ·have hjn:j<n:=by rw[← hn l[k]];exact (List.getElem?_eq_some_iff.1 hj).1
   have hlt:k*n+j<(l.flatMap F).length:=by
    rw[sh F n hnF];have:(k+1)*n<=l.length*n:=Nat.mul_le_mul_right _ (by omega);rw[Nat.succ_mul] at this;omega
   obtain ⟨y,hy1,hy2⟩:=hrow.cell (k*n+j) hlt;have e1:=uS F n hnF l k j hk hjn;rw[List.getElem?_eq_getElem hlt,hF,List.getElem?_map,hj] at e1;injection e1 with e1;rw[e1] at hy2;rw[show o+k*n+j=o+(k*n+j) by omega,hy1,(eX.1 hy2).1]
 ·have hl:l=[]:=List.eq_nil_of_length_eq_zero h2
  subst hl;exact ⟨A,0,rfl,fun k hk=>by simp at hk,Nat.le_refl _⟩
structure bZ (L:bJ):Prop where
 s1:wK L.sts
 s2:wK L.pts
 s3:wK (L.secs.map eP.nm)
 m1:L.sts.length<=9223372036854775807
 m2:L.pts.length<=9223372036854775807
 m3:L.secs.length<=9223372036854775807
 m4:L.lnks.length<=9223372036854775807
theorem Pe {w:World} {κ:Nat->BK} {ρ:Nat->Nat} {l:Loc} {L:bJ} {v:Value} (hL:bZ L) (h:bM w κ ρ l (QJ L) v): ∃ V:CD,v= .agg #[.slice V.A1 L.sts.length V.c1,.slice V.A2 L.pts.length V.c2,.slice V.A3 L.secs.length V.c3,.slice V.A4 L.lnks.length V.c4]/\wJ w V L:=by
 obtain ⟨vs,rfl,hs,hi⟩:=h;have hs':vs.size=4:=hs;obtain ⟨A1,c1,e1,r1,n1⟩:=mj 1 Nf sY (fun x=>rfl) (fun x=>rfl) (by omega) (hi 0 (by simp[I5]) (by omega)).2;obtain ⟨A2,c2,e2,r2,n2⟩:=mj 1 Nf sY (fun x=>rfl) (fun x=>rfl) (by omega) (hi 1 (by simp[I5]) (by omega)).2;obtain ⟨A3,c3,e3,r3,n3⟩:=mj 5 Rr uN (fun x=>rfl) (fun x=>rfl) (by omega) (hi 2 (by simp[I5]) (by omega)).2;obtain ⟨A4,c4,e4,r4,n4⟩:=mj 6 lf wk (fun x=>rfl) (fun x=>rfl) (by omega) (hi 3 (by simp[I5]) (by omega)).2;refine ⟨⟨A1,c1,A2,c2,A3,c3,A4,c4⟩,?_,r1,r2,r3,r4,hL.s1,hL.s2,hL.s3,n1,n2,n3,n4,hL.m1,hL.m2,hL.m3,hL.m4⟩;congr 1;apply Array.ext
 ·exact hs'
 ·intro i h1 h2
  match i,h2 with
  |0,_=>exact e1
  |1,_=>exact e2
  |2,_=>exact e3
  |3,_=>exact e4
theorem Ja (L:bJ) (hL:bZ L):Ok Tryz.prog 143 [QJ L] [] (i64 (bB L)) []:=by
 refine rz _ Tryz.func143 (by kernel_rfl) (by kernel_rfl) rfl rfl fun w κ ρ vals hs hr=>⟨_,ob,?_⟩
 have hs:vals.size=1:=hs;obtain ⟨V,hv,hR⟩:=Pe hL (hr 0 (by simp) (by omega) (.slot 0));rw[tD hs,hv];exact zj V L w hR
theorem wY (L:bJ) (hL:bZ L):cd Tryz.prog 143 [bK L] [] (vI (bB L)) []:=Ja L hL
theorem qs (L:bJ) (hL:bZ L):cd Tryz.prog 65 [bK L] [] (vI (bB L)) []:=zF L hL.s1 hL.s2 hL.s3 hL.m1 hL.m2 hL.m3 hL.m4
end Go.Proofs.YtjkeeocnekggfaaGreat.Av
namespace Go.Proofs.YtjkeeocnekggfaaGreat
theorem dC {a b:Int} (h:ep a b=0):a=0/\b=0:=by
 unfold ep at h;by_cases ha:a=0
 ·rw[if_pos ha] at h;exact ⟨ha,h⟩
 ·rw[if_neg ha] at h;exact absurd h ha
theorem qi {seen:List ByteArray} {s:ByteArray} (h:bG seen s=0):dr s=true:=by
 unfold bG at h;cases hb:dr s
 ·rw[if_pos hb] at h;cases h
 ·rfl
theorem kA: ∀ (r:List ByteArray) (seen:List ByteArray),aW seen r=0-> ∀ s∈r,dr s=true
 |[],_,_,s,hs=>by cases hs
 |x::r,seen,h,s,hs=>by
  simp only[aW] at h;by_cases hx:bG seen x=0
  ·rw[if_pos hx] at h
   rcases List.mem_cons.1 hs with rfl|hs
   ·exact qi hx
   ·exact kA r _ h s hs
  ·rw[if_neg hx] at h;exact absurd h hx
theorem qA (nst:Nat): ∀ (r:List eP) (seen:List ByteArray),cx nst seen r=0-> ∀ s∈r,dr s.nm=true/\kD nst s=true
 |[],_,_,s,hs=>by cases hs
 |x::r,seen,h,s,hs=>by
  simp only[cx] at h;by_cases hx:bG seen x.nm=0
  ·rw[if_pos hx] at h
   by_cases hb:kD nst x=true
   ·rw[if_pos hb] at h
    rcases List.mem_cons.1 hs with rfl|hs
    ·exact ⟨qi hx,hb⟩
    ·exact qA nst r _ h s hs
   ·rw[if_neg hb] at h;cases h
  ·rw[if_neg hx] at h;exact absurd h hx
theorem oF (n p:Nat): ∀ (r:List dF) (prev:List dF),bm n p prev r=0-> ∀ k∈r,gv n p k=true
 |[],_,_,s,hs=>by cases hs
 |x::r,prev,h,s,hs=>by
  simp only[bm] at h;by_cases hx:cN n p prev x=0
  ·rw[if_pos hx] at h
   rcases List.mem_cons.1 hs with rfl|hs
   ·cases hb:gv n p s
    ·unfold cN at hx;rw[if_pos hb] at hx;cases hx
    ·rfl
   ·exact oF n p r _ h s hs
  ·rw[if_neg hx] at h;exact absurd h hx
structure Valid (L:bJ):Prop where
 n1:L.sts.length<=24
 n2:L.pts.length<=48
 n3:L.secs.length<=96
 n4:L.lnks.length<=192
 n5:1<=L.secs.length
 v1: ∀ s∈L.sts,dr s=true
 v2: ∀ s∈L.pts,dr s=true
 v3: ∀ s∈L.secs,dr s.nm=true/\kD L.sts.length s=true
 v4: ∀ k∈L.lnks,gv L.secs.length L.pts.length k=true
theorem df {L:bJ} (h:bB L=0):Valid L:=by
 unfold bB at h;by_cases h1:24<L.sts.length\/48<L.pts.length\/96<L.secs.length\/192<L.lnks.length
 ·rw[if_pos h1] at h;cases h
 ·rw[if_neg h1] at h
  by_cases h2:L.secs.length=0
  ·rw[if_pos h2] at h;cases h
  ·rw[if_neg h2] at h
   obtain ⟨a,h⟩:=dC h;obtain ⟨b,h⟩:=dC h;obtain ⟨c,d⟩:=dC h;exact ⟨by omega,by omega,by omega,by omega,by omega,kA _ _ a,kA _ _ b,qA _ _ _ c,oF _ _ _ _ d⟩
theorem o6 {s:ByteArray} (h:dr s=true):s.size<=12:=by
 unfold dr at h;simp at h;exact h.1.1.2
end Go.Proofs.YtjkeeocnekggfaaGreat
namespace Go.Proofs.YtjkeeocnekggfaaGreat.Av
def bD.ok (L:bJ) (s:bD):Bool:=decide (0<=s.sec)&&decide (s.sec<L.secs.length)&&(decide (s.dir=0)||decide (s.dir=1))
def vp (d:Int):Int:=if d=1 then 0 else 1
def yR (e:Int):Int:=if e=0 then 0 else 1
def mH (s:bD) (k:dF):Option rR:=
 if k.a=s.sec/\k.ae=vp s.dir then some ⟨k.b,yR k.be,k.pt,k.ps⟩ else
 if k.b=s.sec/\k.be=vp s.dir then some ⟨k.a,yR k.ae,k.pt,k.ps⟩ else none
def oE (L:bJ) (s:bD):List rR:=L.lnks.filterMap (mH s)
abbrev x4 (s:bD):SV:= .agg [xI s.sec,xI s.dir]
def rF (d:Int):Int:=if d=0 then 1 else 0
theorem DY (s:bD):cd Tryz.prog 238 [x4 s] [] (x4 ⟨s.sec,rF s.dir⟩) []:=by
 unfold rF;refine FQ Tryz.func238 ?_;simp only[cu,Nat.zero_add,Nat.reduceAdd]
 repeat' (first|with_reducible (first|refine ab ?_ ?_|exact True.intro|exact bu.nil _)|((with_reducible apply bH);intro hbq;(try simp only[bq] at hbq);(try (exfalso;omega)))|refine RQ ?_|fail)
 ·rw[if_pos hbq]
  repeat' (first|with_reducible (first|refine KQ ?_|refine ab ?_ ?_|exact True.intro)|refine mB.agg ?_)
 ·rw[if_neg hbq]
  repeat' (first|with_reducible (first|refine KQ ?_|refine ab ?_ ?_|exact True.intro)|refine mB.agg ?_)
theorem ea (L:bJ) (s:bD) (i:Nat) (h:i<L.lnks.length):(L.lnks.take (i+1)).filterMap (mH s)=(L.lnks.take i).filterMap (mH s)++(mH s (L.lnks.getD i a9)).toList:=by
 rw[List.take_succ_eq_append_getElem h,List.filterMap_append,List.getD_eq_getElem?_getD,List.getElem?_eq_getElem h];simp only[Option.getD_some,List.filterMap_cons,List.filterMap_nil];cases mH s L.lnks[i]<;>rfl
theorem j7 {α:Type} {p:α->Bool} {d:α}: ∀ {l:List α} {i:Nat},i<l.length->p (l.getD i d)=true->(∀ j,j<i->p (l.getD j d)=false)->l.find? p=some (l.getD i d)
 |x::l,0,_,h,_=>by
  have h':p x=true:=h;simp[List.find?_cons,h']
 |x::l,i+1,hi,h,hj=>by
  have h0:p x=false:=hj 0 (by omega);rw[List.find?_cons,h0];exact j7 (l:=l) (by simpa using hi) h (fun j hj'=>hj (j+1) (by omega))
theorem pW {α:Type} {p:α->Bool} {d:α} {l:List α} (h: ∀ j,j<l.length->p (l.getD j d)=false):l.find? p=none:=by
 rw[List.find?_eq_none];intro x hx;obtain ⟨i,hi,rfl⟩:=List.mem_iff_getElem.1 hx;have:=h i hi;rw[List.getD_eq_getElem?_getD,List.getElem?_eq_getElem hi] at this;simpa using this
theorem bR {q:Nat->Prop} {i:Nat} (h: ∀ j,j<i->q j) (hi:q i): ∀ j,j<i+1->q j:=fun j hj=>by
 rcases Nat.lt_succ_iff_lt_or_eq.1 hj with h1|h1
 ·exact h j h1
 ·exact h1▸hi
def Cn (t:bD) (h:rR):Bool:=decide (h.sec=t.sec)&&decide (h.dir=t.dir)
def ij (L:bJ) (a b:bD):Option rR:=(oE L a).find? (Cn b)
theorem JH {L:bJ} (hV:Valid L) {i:Nat} (h:i<L.lnks.length):gv L.secs.length L.pts.length (L.lnks.getD i a9)=true:=by
 rw[List.getD_eq_getElem?_getD,List.getElem?_eq_getElem h];exact hV.v4 _ (List.getElem_mem h)
theorem sv (n p:Nat): ∀ (r:List dF) (prev:List dF),bm n p prev r=0-> ∀ k∈r,¬ (k.a=k.b/\k.ae=k.be)
 |[],_,_,s,hs=>by cases hs
 |x::r,prev,h,s,hs=>by
  simp only[bm] at h;by_cases hx:cN n p prev x=0
  ·rw[if_pos hx] at h
   rcases List.mem_cons.1 hs with rfl|hs
   ·unfold cN at hx
    intro e;split at hx
    ·cases hx
    ·rw[if_pos (by rw[e.1,e.2])] at hx;cases hx
   ·exact sv n p r _ h s hs
  ·rw[if_neg hx] at h;exact absurd h hx
theorem L8 {L:bJ} (h:bB L=0): ∀ k∈L.lnks,¬ (k.a=k.b/\k.ae=k.be):=by
 unfold bB at h;split at h
 ·cases h
 ·split at h
  ·cases h
  ·exact sv _ _ _ _ (dC (dC (dC h).2).2).2
def kx (d:Int):Int:=if d=0 then 1 else 0
def nK (s t:bD) (k:dF):Bool:=
 decide ((k.a=s.sec/\k.ae=kx s.dir)/\(k.b=t.sec/\k.be=kx (rF t.dir)))||decide ((k.a=t.sec/\k.ae=kx (rF t.dir))/\(k.b=s.sec/\k.be=kx s.dir))
def kH (L:bJ) (s t:bD):Option Int:=(L.lnks.find? (nK s t)).map dF.pt
theorem Nk {s t:bD} {n p:Nat} {k:dF} (hs:s.dir=0\/s.dir=1) (ht:t.dir=0\/t.dir=1) (hk:gv n p k=true) (hne: ¬ (k.a=k.b/\k.ae=k.be)):
  (nK s t k=true-> ∃ h,mH s k=some h/\Cn t h=true/\h.pt=k.pt)/\(nK s t k=false-> ∀ h,mH s k=some h->Cn t h=false):=by
 obtain ⟨l1,l2,l3,l4,l5,l6,l7,l8,l9,l10,l11,l12,l13⟩:=gQ hk;have o:vp s.dir=kx s.dir:=by unfold vp kx;rcases hs with h|h<;>rw[h]<;>rfl
 have e: ∀ b,0<=b->b<=1->(yR b=t.dir↔b=kx (rF t.dir)):=fun b h0 h1=>by
  unfold yR kx rF;rcases ht with h|h<;>rw[h]<;>(repeat' split)<;>omega
 unfold nK mH Cn;rw[o];constructor
 ·intro h
  rw[Bool.or_eq_true,decide_eq_true_eq,decide_eq_true_eq] at h;rcases h with ⟨h1,h2⟩|⟨h1,h2⟩
  ·rw[if_pos h1]
   exact ⟨_,rfl,by simp only[h2.1,(e _ l7 l8).2 h2.2,decide_true,Bool.and_self],rfl⟩
  ·rw[if_neg (fun x=>hne ⟨x.1.trans h2.1.symm,x.2.trans h2.2.symm⟩),if_pos h2]
   exact ⟨_,rfl,by simp only[h1.1,(e _ l5 l6).2 h1.2,decide_true,Bool.and_self],rfl⟩
 ·intro h
  rw[Bool.or_eq_false_iff,decide_eq_false_iff_not,decide_eq_false_iff_not] at h;intro x hx;split at hx
  ·rename_i h1
   injection hx with hx;subst hx;rw[Bool.and_eq_false_iff,decide_eq_false_iff_not,decide_eq_false_iff_not,e _ l7 l8];by_cases h2:k.b=t.sec
   ·exact .inr fun h3=>h.1 ⟨h1,h2,h3⟩
   ·exact .inl h2
  ·split at hx
   ·rename_i h1
    injection hx with hx;subst hx;rw[Bool.and_eq_false_iff,decide_eq_false_iff_not,decide_eq_false_iff_not,e _ l5 l6];by_cases h2:k.a=t.sec
    ·exact .inr fun h3=>h.2 ⟨⟨h2,h3⟩,h1⟩
    ·exact .inl h2
   ·cases hx
theorem nL {s t:bD} {n p:Nat} (hs:s.dir=0\/s.dir=1) (ht:t.dir=0\/t.dir=1): ∀ (l:List dF),(∀ k∈l,gv n p k=true)->(∀ k∈l,¬ (k.a=k.b/\k.ae=k.be))->
  (l.find? (nK s t)).map dF.pt=((l.filterMap (mH s)).find? (Cn t)).map rR.pt
 |[],_,_=>rfl
 |k::l,h1,h2=>by
  have ih:=nL hs ht l (fun x hx=>h1 x (List.mem_cons_of_mem _ hx)) (fun x hx=>h2 x (List.mem_cons_of_mem _ hx));obtain ⟨a,b⟩:=Nk hs ht (h1 k (List.mem_cons_self ..)) (h2 k (List.mem_cons_self ..));rw[List.find?_cons,List.filterMap_cons];cases hk:nK s t k with
  |true=>
   obtain ⟨x,e1,e2,e3⟩:=a hk;simp only[e1,List.find?_cons,e2,Option.map_some,e3]
  |false=>
   cases hh:mH s k with
   |none=>simpa using ih
   |some x=>
    have:=b hk x hh;simp only[List.find?_cons,this];exact ih
theorem my {L:bJ} (hv:bB L=0) {s t:bD} (hs:s.dir=0\/s.dir=1) (ht:t.dir=0\/t.dir=1):kH L s t=(ij L s t).map rR.pt:=
 nL hs ht L.lnks (df hv).v4 (L8 hv)
theorem dE {L:bJ} {s:bD} (h:s.ok L=true):0<=s.sec/\s.sec<L.secs.length/\(s.dir=0\/s.dir=1):=by
 unfold bD.ok at h;simp only[Bool.and_eq_true,Bool.or_eq_true,decide_eq_true_eq] at h;exact ⟨h.1.1,h.1.2,h.2⟩
theorem zg {s:bD} {k:dF} {e:Int} (ho:vp s.dir=e) (h:k.a=s.sec/\k.ae=e):mH s k=some ⟨k.b,yR k.be,k.pt,k.ps⟩:=if_pos (by rw[ho];exact h)
theorem zh {s:bD} {k:dF} {e:Int} (ho:vp s.dir=e) (hn: ¬ k.a=s.sec\/ ¬ k.ae=e) (h:k.b=s.sec/\k.be=e):mH s k=some ⟨k.a,yR k.ae,k.pt,k.ps⟩:=
 (if_neg (by rw[ho];omega)).trans (if_pos (by rw[ho];exact h))
theorem Jw {s:bD} {k:dF} {e:Int} (ho:vp s.dir=e) (hn: ¬ k.a=s.sec\/ ¬ k.ae=e) (h: ¬ k.b=s.sec\/ ¬ k.be=e):mH s k=none:=
 (if_neg (by rw[ho];omega)).trans (if_neg (by rw[ho];omega))
theorem yT {e:Int} (h:e=1):yR e=1:=by subst h;rfl
theorem yS {e:Int} (h0:0<=e/\e<=1) (h: ¬ e=1):yR e=0:=by unfold yR;rw[if_pos (by omega)]
theorem vy (L:bJ) (s:bD) (hV:Valid L):cd Tryz.prog 75 [bK L,x4 s] [] (.c (PE (oE L s))) []:=by
 have hlen:=hV.n4;unfold bK;refine FQ Tryz.func75 ?_;simp only[cu,Nat.zero_add,Nat.reduceAdd]
 repeat' (first|with_reducible (first|refine ab ?_ ?_|exact True.intro)|((with_reducible apply bH);intro hbq;(try simp only[bq] at hbq);(try (exfalso;omega)))|refine RQ ?_|fail)
 ·have ho:vp s.dir=0:=by unfold vp;(first|rw[if_pos hbq]|rw[if_neg hbq])
  refine aH (fun i:Nat=>SS [sC 2 (pB 0),sC 5 (pB 2),sC 6 (Rv ((L.lnks.take i).filterMap (mH s))),sI 7 i] [some (.cells [ed L.sts,ed L.pts,mJ L.secs,kC L.lnks]),none,some (.cells [xI s.sec,xI 0])]) (fun i=>i<=L.lnks.length) (fun i=>L.lnks.length-i) 0 ?_ (by omega) ?_
  ·
   refine WQ ?_ ?_<;>repeat' (first|with_reducible (first|refine KQ ?_|refine ab ?_ ?_|exact True.intro)|refine ax rfl ?_ ?_|exact aE.ah|exact aE.ao|exact aE.al|refine aN.cells ?_ ?_|refine aN.bF ?_ ?_|refine cg.cons ?_ ?_|exact (rfl:known _=_)|exact (rfl:aF _=true)|with_reducible rfl|omega)
  ·intro i hi
   have hlt:((L.lnks.take i).filterMap (mH s)).length<=i:=Nat.le_trans (List.length_filterMap_le _ _) (by rw[List.length_take];omega);have hl:i<L.lnks.length->gv L.secs.length L.pts.length (L.lnks.getD i a9)=true:=fun h=>JH hV h
   have hk:(i:Int)<L.lnks.length->0<=(L.lnks.getD (i:Int).toNat a9).a/\0<=(L.lnks.getD (i:Int).toNat a9).b/\(0<=(L.lnks.getD (i:Int).toNat a9).ae/\(L.lnks.getD (i:Int).toNat a9).ae<=1)/\(0<=(L.lnks.getD (i:Int).toNat a9).be/\(L.lnks.getD (i:Int).toNat a9).be<=1):=fun h=>by
    obtain ⟨l1,l2,l3,l4,l5,l6,l7,l8,_⟩:=gQ (hl (by omega));exact ⟨l1,l3,⟨l5,l6⟩,⟨l7,l8⟩⟩
   repeat' (first|with_reducible (first|exact VQ|refine ab ?_ ?_|exact True.intro|exact bu.nil _|refine DQ ?_|assumption)|((with_reducible apply bH);intro hbq;(try simp only[bq] at hbq);(try (exfalso;omega)))|refine RQ ?_|(intro (hgq:(_:Bool)=true);(try simp only[bq] at hgq))|((with_reducible apply cH);simp only[bq])|((with_reducible apply db);rfl)|omega)
   all_goals (try (exfalso;have:=hk (by assumption);omega))
   ·rename_i c1 c2 c3
    have e:=zg ho c2;rw[yT hbq] at e
    refine az (i+1) ?_ ?_ ?_
    rotate_left
    ·(try dsimp only);omega
    ·(try dsimp only);omega
    refine WQ ?_ ?_<;>repeat' (first|with_reducible (first|refine KQ ?_|refine ab ?_ ?_|exact True.intro)|refine ax rfl ?_ ?_|exact aE.ah|exact aE.ao|exact aE.al|refine aN.cells ?_ ?_|refine aN.bF ?_ ?_|refine cg.cons ?_ ?_|exact (rfl:known _=_)|exact (rfl:aF _=true)|with_reducible rfl|omega)
    all_goals (simp only[Int.toNat_natCast] at e⊢;rw[ea L s i (by omega),e];simp[uM,fI])
   ·rename_i c1 c2 c3
    have e:=zg ho c2;rw[yS (hk c1).2.2.2 hbq] at e
    refine az (i+1) ?_ ?_ ?_
    rotate_left
    ·(try dsimp only);omega
    ·(try dsimp only);omega
    refine WQ ?_ ?_<;>repeat' (first|with_reducible (first|refine KQ ?_|refine ab ?_ ?_|exact True.intro)|refine ax rfl ?_ ?_|exact aE.ah|exact aE.ao|exact aE.al|refine aN.cells ?_ ?_|refine aN.bF ?_ ?_|refine cg.cons ?_ ?_|exact (rfl:known _=_)|exact (rfl:aF _=true)|with_reducible rfl|omega)
    all_goals (simp only[Int.toNat_natCast] at e⊢;rw[ea L s i (by omega),e];simp[uM,fI])
   ·rename_i c1 c2 c3 c4
    have e:=zh ho c2 c3;rw[yT hbq] at e
    refine az (i+1) ?_ ?_ ?_
    rotate_left
    ·(try dsimp only);omega
    ·(try dsimp only);omega
    refine WQ ?_ ?_<;>repeat' (first|with_reducible (first|refine KQ ?_|refine ab ?_ ?_|exact True.intro)|refine ax rfl ?_ ?_|exact aE.ah|exact aE.ao|exact aE.al|refine aN.cells ?_ ?_|refine aN.bF ?_ ?_|refine cg.cons ?_ ?_|exact (rfl:known _=_)|exact (rfl:aF _=true)|with_reducible rfl|omega)
    all_goals (simp only[Int.toNat_natCast] at e⊢;rw[ea L s i (by omega),e];simp[uM,fI])
   ·rename_i c1 c2 c3 c4
    have e:=zh ho c2 c3;rw[yS (hk c1).2.2.1 hbq] at e
    refine az (i+1) ?_ ?_ ?_
    rotate_left
    ·(try dsimp only);omega
    ·(try dsimp only);omega
    refine WQ ?_ ?_<;>repeat' (first|with_reducible (first|refine KQ ?_|refine ab ?_ ?_|exact True.intro)|refine ax rfl ?_ ?_|exact aE.ah|exact aE.ao|exact aE.al|refine aN.cells ?_ ?_|refine aN.bF ?_ ?_|refine cg.cons ?_ ?_|exact (rfl:known _=_)|exact (rfl:aF _=true)|with_reducible rfl|omega)
    all_goals (simp only[Int.toNat_natCast] at e⊢;rw[ea L s i (by omega),e];simp[uM,fI])
   ·rename_i c1 c2 c3
    have e:=Jw ho c2 c3;refine az (i+1) ?_ ?_ ?_
    rotate_left
    ·(try dsimp only);omega
    ·(try dsimp only);omega
    refine WQ ?_ ?_<;>repeat' (first|with_reducible (first|refine KQ ?_|refine ab ?_ ?_|exact True.intro)|refine ax rfl ?_ ?_|exact aE.ah|exact aE.ao|exact aE.al|refine aN.cells ?_ ?_|refine aN.bF ?_ ?_|refine cg.cons ?_ ?_|exact (rfl:known _=_)|exact (rfl:aF _=true)|with_reducible rfl|omega)
    all_goals (simp only[Int.toNat_natCast] at e⊢;rw[ea L s i (by omega),e];simp)
   ·have hie:i=L.lnks.length:=by omega
    subst hie
    repeat' (first|with_reducible (first|refine KQ ?_|fail)|refine mB.c ?_)
    all_goals (unfold oE;rw[List.take_length])
 ·have ho:vp s.dir=1:=by unfold vp;(first|rw[if_pos hbq]|rw[if_neg hbq])
  refine aH (fun i:Nat=>SS [sC 2 (pB 0),sC 5 (pB 2),sC 6 (Rv ((L.lnks.take i).filterMap (mH s))),sI 7 i] [some (.cells [ed L.sts,ed L.pts,mJ L.secs,kC L.lnks]),none,some (.cells [xI s.sec,xI 1])]) (fun i=>i<=L.lnks.length) (fun i=>L.lnks.length-i) 0 ?_ (by omega) ?_
  ·
   refine WQ ?_ ?_<;>repeat' (first|with_reducible (first|refine KQ ?_|refine ab ?_ ?_|exact True.intro)|refine ax rfl ?_ ?_|exact aE.ah|exact aE.ao|exact aE.al|refine aN.cells ?_ ?_|refine aN.bF ?_ ?_|refine cg.cons ?_ ?_|exact (rfl:known _=_)|exact (rfl:aF _=true)|with_reducible rfl|omega)
  ·intro i hi
   have hlt:((L.lnks.take i).filterMap (mH s)).length<=i:=Nat.le_trans (List.length_filterMap_le _ _) (by rw[List.length_take];omega);have hl:i<L.lnks.length->gv L.secs.length L.pts.length (L.lnks.getD i a9)=true:=fun h=>JH hV h
   have hk:(i:Int)<L.lnks.length->0<=(L.lnks.getD (i:Int).toNat a9).a/\0<=(L.lnks.getD (i:Int).toNat a9).b/\(0<=(L.lnks.getD (i:Int).toNat a9).ae/\(L.lnks.getD (i:Int).toNat a9).ae<=1)/\(0<=(L.lnks.getD (i:Int).toNat a9).be/\(L.lnks.getD (i:Int).toNat a9).be<=1):=fun h=>by
    obtain ⟨l1,l2,l3,l4,l5,l6,l7,l8,_⟩:=gQ (hl (by omega));exact ⟨l1,l3,⟨l5,l6⟩,⟨l7,l8⟩⟩
   repeat' (first|with_reducible (first|exact VQ|refine ab ?_ ?_|exact True.intro|exact bu.nil _|refine DQ ?_|assumption)|((with_reducible apply bH);intro hbq;(try simp only[bq] at hbq);(try (exfalso;omega)))|refine RQ ?_|(intro (hgq:(_:Bool)=true);(try simp only[bq] at hgq))|((with_reducible apply cH);simp only[bq])|((with_reducible apply db);rfl)|omega)
   all_goals (try (exfalso;have:=hk (by assumption);omega))
   ·rename_i c1 c2 c3
    have e:=zg ho c2;rw[yT hbq] at e
    refine az (i+1) ?_ ?_ ?_
    rotate_left
    ·(try dsimp only);omega
    ·(try dsimp only);omega
    refine WQ ?_ ?_<;>repeat' (first|with_reducible (first|refine KQ ?_|refine ab ?_ ?_|exact True.intro)|refine ax rfl ?_ ?_|exact aE.ah|exact aE.ao|exact aE.al|refine aN.cells ?_ ?_|refine aN.bF ?_ ?_|refine cg.cons ?_ ?_|exact (rfl:known _=_)|exact (rfl:aF _=true)|with_reducible rfl|omega)
    all_goals (simp only[Int.toNat_natCast] at e⊢;rw[ea L s i (by omega),e];simp[uM,fI])
   ·rename_i c1 c2 c3
    have e:=zg ho c2;rw[yS (hk c1).2.2.2 hbq] at e
    refine az (i+1) ?_ ?_ ?_
    rotate_left
    ·(try dsimp only);omega
    ·(try dsimp only);omega
    refine WQ ?_ ?_<;>repeat' (first|with_reducible (first|refine KQ ?_|refine ab ?_ ?_|exact True.intro)|refine ax rfl ?_ ?_|exact aE.ah|exact aE.ao|exact aE.al|refine aN.cells ?_ ?_|refine aN.bF ?_ ?_|refine cg.cons ?_ ?_|exact (rfl:known _=_)|exact (rfl:aF _=true)|with_reducible rfl|omega)
    all_goals (simp only[Int.toNat_natCast] at e⊢;rw[ea L s i (by omega),e];simp[uM,fI])
   ·rename_i c1 c2 c3 c4
    have e:=zh ho c2 c3;rw[yT hbq] at e
    refine az (i+1) ?_ ?_ ?_
    rotate_left
    ·(try dsimp only);omega
    ·(try dsimp only);omega
    refine WQ ?_ ?_<;>repeat' (first|with_reducible (first|refine KQ ?_|refine ab ?_ ?_|exact True.intro)|refine ax rfl ?_ ?_|exact aE.ah|exact aE.ao|exact aE.al|refine aN.cells ?_ ?_|refine aN.bF ?_ ?_|refine cg.cons ?_ ?_|exact (rfl:known _=_)|exact (rfl:aF _=true)|with_reducible rfl|omega)
    all_goals (simp only[Int.toNat_natCast] at e⊢;rw[ea L s i (by omega),e];simp[uM,fI])
   ·rename_i c1 c2 c3 c4
    have e:=zh ho c2 c3;rw[yS (hk c1).2.2.1 hbq] at e
    refine az (i+1) ?_ ?_ ?_
    rotate_left
    ·(try dsimp only);omega
    ·(try dsimp only);omega
    refine WQ ?_ ?_<;>repeat' (first|with_reducible (first|refine KQ ?_|refine ab ?_ ?_|exact True.intro)|refine ax rfl ?_ ?_|exact aE.ah|exact aE.ao|exact aE.al|refine aN.cells ?_ ?_|refine aN.bF ?_ ?_|refine cg.cons ?_ ?_|exact (rfl:known _=_)|exact (rfl:aF _=true)|with_reducible rfl|omega)
    all_goals (simp only[Int.toNat_natCast] at e⊢;rw[ea L s i (by omega),e];simp[uM,fI])
   ·rename_i c1 c2 c3
    have e:=Jw ho c2 c3;refine az (i+1) ?_ ?_ ?_
    rotate_left
    ·(try dsimp only);omega
    ·(try dsimp only);omega
    refine WQ ?_ ?_<;>repeat' (first|with_reducible (first|refine KQ ?_|refine ab ?_ ?_|exact True.intro)|refine ax rfl ?_ ?_|exact aE.ah|exact aE.ao|exact aE.al|refine aN.cells ?_ ?_|refine aN.bF ?_ ?_|refine cg.cons ?_ ?_|exact (rfl:known _=_)|exact (rfl:aF _=true)|with_reducible rfl|omega)
    all_goals (simp only[Int.toNat_natCast] at e⊢;rw[ea L s i (by omega),e];simp)
   ·have hie:i=L.lnks.length:=by omega
    subst hie
    repeat' (first|with_reducible (first|refine KQ ?_|fail)|refine mB.c ?_)
    all_goals (unfold oE;rw[List.take_length])
def Sr:rR:=⟨0,0,0,0⟩
theorem GP (L:bJ) (a b:bD) (hV:Valid L):cd Tryz.prog 106 [bK L,x4 a,x4 b] [] (.cC [.agg (Np ((ij L a b).getD Sr)),.c (xB (ij L a b).isSome)]) []:=by
 have hH:=vy L a hV;have hlen:(oE L a).length<=192:=Nat.le_trans (List.length_filterMap_le _ _) hV.n4;unfold ij;generalize oE L a=hs at hH hlen
 unfold bK at hH⊢;refine FQ Tryz.func106 ?_;simp only[cu,Nat.zero_add,Nat.reduceAdd]
 repeat' (first|with_reducible (first|refine ab ?_ ?_|exact True.intro|refine DQ ?_|fail)|((with_reducible apply aC);refine an (hH) rfl ?_)|refine RQ ?_|fail)
 refine aH (fun i:Nat=>SS [sC 5 (pB 2),sC 6 (pB 3),sC 8 (PE hs),sI 9 i] [none,none,some (.cells [xI b.sec,xI b.dir]),some (.cells [xI 0,xI 0,xI 0,xI 0])]) (fun i=>i<=hs.length/\ ∀ j,j<i->Cn b (hs.getD j ⟨0,0,0,0⟩)=false) (fun i=>hs.length-i) 0 ?_ ⟨by omega,fun j hj=>by omega⟩ ?_
 ·
  refine WQ ?_ ?_<;>repeat' (first|with_reducible (first|refine KQ ?_|refine ab ?_ ?_|exact True.intro)|refine ax rfl ?_ ?_|exact aE.ah|exact aE.ao|exact aE.al|refine aN.cells ?_ ?_|refine aN.bF ?_ ?_|refine cg.cons ?_ ?_|exact (rfl:known _=_)|exact (rfl:aF _=true)|with_reducible rfl|omega)
 ·intro i hi
  obtain ⟨hi,hno⟩:=hi
  repeat' (first|with_reducible (first|exact BQ|exact VQ|refine ab ?_ ?_|exact True.intro|exact bu.nil _|refine DQ ?_|assumption)|((with_reducible apply bH);intro hbq;(try simp only[bq] at hbq);(try (exfalso;omega)))|refine RQ ?_|omega)
  ·have hf:=j7 (p:=Cn b) (d:=⟨0,0,0,0⟩) (l:=hs) (i:=i) (by omega) (by unfold Cn;simp only[Bool.and_eq_true,decide_eq_true_eq];exact hbq) hno
   rw[hf];rfl
  ·
   refine az (i+1) ?_ (⟨by omega,bR hno (by unfold Cn;simp only[Bool.and_eq_false_iff,decide_eq_false_iff_not];exact hbq)⟩) (by (try dsimp only);omega);refine WQ ?_ ?_<;>repeat' (first|with_reducible (first|refine KQ ?_|refine ab ?_ ?_|exact True.intro)|refine ax rfl ?_ ?_|exact aE.ah|exact aE.ao|exact aE.al|refine aN.cells ?_ ?_|refine aN.bF ?_ ?_|refine cg.cons ?_ ?_|exact (rfl:known _=_)|exact (rfl:aF _=true)|with_reducible rfl|omega)
  ·have hf:=pW (p:=Cn b) (d:=⟨0,0,0,0⟩) (l:=hs) (fun j hj=>hno j (by omega))
   rw[hf];rfl
theorem u4 (s:bD):cd Tryz.prog 237 [x4 s] [] (.agg [xI s.sec,xI (kx s.dir)]) []:=by
 unfold kx;refine FQ Tryz.func237 ?_;simp only[cu,Nat.zero_add,Nat.reduceAdd]
 repeat' (first|with_reducible (first|refine ab ?_ ?_|exact True.intro|exact bu.nil _)|((with_reducible apply bH);intro hbq;(try simp only[bq] at hbq);(try (exfalso;omega)))|refine RQ ?_|fail)
 ·rw[if_pos hbq]
  repeat' (first|with_reducible (first|refine KQ ?_|refine ab ?_ ?_|exact True.intro)|refine mB.agg ?_)
 ·rw[if_neg hbq]
  repeat' (first|with_reducible (first|refine KQ ?_|refine ab ?_ ?_|exact True.intro)|refine mB.agg ?_)
theorem GO (L:bJ) (hl:L.secs.length<=9000000000000000000) (s:bD):cd Tryz.prog 226 [bK L,x4 s] [] (vB (s.ok L)) []:=by
 unfold bD.ok;unfold bK;refine FQ Tryz.func226 ?_;simp only[cu,Nat.zero_add,Nat.reduceAdd]
 repeat' (first|with_reducible (first|refine ab ?_ ?_|exact True.intro|exact bu.nil _|assumption)|refine RQ ?_|(intro (hgq:(_:Bool)=true);(try simp only[bq] at hgq))|(intro (hgq:(_:Bool)=false);(try simp only[bq] at hgq))|((with_reducible apply cH);simp only[bq])|(simp only[hgq,bq];done)|omega)
 repeat' (first|with_reducible (first|refine KQ ?_|exact True.intro)|refine mB.c ?_)
theorem wD (L:bJ) (hV:Valid L) (s t:bD):cd Tryz.prog 227 [bK L,x4 s,x4 t] [] (.cC [.c (xI ((kH L s t).getD 0)),.c (xB (kH L s t).isSome)]) []:=by
 have h1:=u4 s;have h2:=DY t;have h3:=u4 ⟨t.sec,rF t.dir⟩;have hlen:=hV.n4;unfold kH;unfold bK;refine FQ Tryz.func227 ?_;simp only[cu,Nat.zero_add,Nat.reduceAdd]
 repeat' (first|with_reducible (first|refine ab ?_ ?_|exact True.intro|refine DQ ?_|fail)|((with_reducible apply aC);first|refine an (h1) rfl ?_|refine an (h2) rfl ?_|refine an (h3) rfl ?_)|((with_reducible apply Rn);refine Ao [0,1,2,3,4] 5 6 [7,8] 3 (by kernel_rfl) rfl rfl rfl rfl ?_)|((with_reducible apply Kc);kernel_rfl)|((with_reducible apply Ka);exact Af rfl)|((with_reducible apply Kb);refine Ah rfl ?_)|refine RQ ?_|fail)
 all_goals (
  refine aH (fun i:Nat=>SS [sC 8 (pB 3),sC 9 (pB 4),sC 20 (kC L.lnks),sI 21 L.lnks.length,sI 22 i] [none,none,none,some (.cells [xI s.sec,xI (kx s.dir)]),some (.cells [xI t.sec,xI (kx (rF t.dir))])]) (fun i=>i<=L.lnks.length/\ ∀ j,j<i->nK s t (L.lnks.getD j a9)=false) (fun i=>L.lnks.length-i) 0 ?_ ⟨by omega,fun j hj=>by omega⟩ ?_)
 any_goals (
  show di _ _ _;refine WQ ?_ ?_<;>repeat' (first|with_reducible (first|refine KQ ?_|refine ab ?_ ?_|exact True.intro)|refine ax rfl ?_ ?_|exact aE.ah|exact aE.ao|exact aE.al|refine aN.cells ?_ ?_|refine aN.bF ?_ ?_|refine cg.cons ?_ ?_|exact (rfl:known _=_)|exact (rfl:aF _=true)|with_reducible rfl|omega)
  done)
 all_goals (
  intro i hi;obtain ⟨hi,hno⟩:=hi
  repeat' (first|with_reducible (first|exact VQ|refine ab ?_ ?_|exact True.intro|exact bu.nil _|refine DQ ?_|assumption)|((with_reducible apply Rn);refine Ao [0,1,2,3,4,5,6,7,8,9] 10 11 [12,13] 6 (by kernel_rfl) rfl rfl rfl rfl ?_)|((with_reducible apply Kc);kernel_rfl)|((with_reducible apply Ka);exact Af rfl)|((with_reducible apply Kb);refine Ah rfl ?_)|((with_reducible apply bH);intro hbq;(try simp only[bq] at hbq);(try (exfalso;omega)))|refine RQ ?_|(intro (hgq:(_:Bool)=true);(try simp only[bq] at hgq))|(intro (hgq:(_:Bool)=false);(try simp only[bq] at hgq))|((with_reducible apply cH);simp only[bq])|(simp only[hgq,bq];done)|omega)
  )
 all_goals first
  |(
   have hf:=j7 (p:=nK s t) (d:=a9) (l:=L.lnks) (i:=i) (by omega) (by unfold nK;simp only[Bool.or_eq_true,decide_eq_true_eq];exact hbq) hno;rw[hf];rfl)
  |(
   refine az (i+1) ?_ (⟨by omega,bR hno (by simp only[Int.toNat_natCast] at hbq;unfold nK;simp only[Bool.or_eq_false_iff,decide_eq_false_iff_not];omega)⟩) (by (try dsimp only);omega);refine WQ ?_ ?_<;>repeat' (first|with_reducible (first|refine KQ ?_|refine ab ?_ ?_|exact True.intro)|refine ax rfl ?_ ?_|exact aE.ah|exact aE.ao|exact aE.al|refine aN.cells ?_ ?_|refine aN.bF ?_ ?_|refine cg.cons ?_ ?_|exact (rfl:known _=_)|exact (rfl:aF _=true)|with_reducible rfl|omega)
   done)
  |(
   have hf:=pW (p:=nK s t) (d:=a9) (l:=L.lnks) (fun j hj=>hno j (by omega));rw[hf];rfl)
abbrev bd:bD:=⟨0,0⟩
def iM (st:List bD) (i:Nat):Bool:=(st.take i).any fun s=>decide (s.sec=(st.getD i bd).sec)
def wh (st:List bD):Bool:=(List.range st.length).any (iM st)
def iw (L:bJ) (st:List bD) (i:Nat):Option rR:=ij L (st.getD i bd) (st.getD (i+1) bd)
def j9 (L:bJ) (st:List bD):Bool:=(List.range (st.length-1)).all fun i=>(iw L st i).isSome
def DT (L:bJ) (st:List bD) (n:Nat):List Int:=(List.range n).map fun i=>((iw L st i).map rR.pt).getD 0
def cw (L:bJ) (r:jV):Int:=
 if bB L≠0 then 1 else if 24<r.st.length\/2<r.ov then 7 else if r.ov<0\/(r.st.length:Int)-r.ov<2 then 4 else
 if r.st.all (bD.ok L)=false then 4 else if wh r.st=true then 5 else if j9 L r.st=false then 11 else 0
section
variable {L:bJ} {r:jV}
theorem NZ (h: ¬ bB L=0):cw L r=1:=if_pos h
theorem Kn (h:bB L=0) (h2:24<r.st.length\/2<r.ov):cw L r=7:=by unfold cw;rw[if_neg (by simpa using h),if_pos h2]
theorem Kl (h:bB L=0) (h2: ¬ (24<r.st.length\/2<r.ov)) (h3:r.ov<0\/(r.st.length:Int)-r.ov<2):cw L r=4:=by unfold cw;rw[if_neg (by simpa using h),if_neg h2,if_pos h3]
theorem IK {l:List bD} {p:bD->Bool} {i:Nat} (hi:i<l.length) (h:p (l.getD i bd)=false):l.all p=false:=by
 rw[List.getD_eq_getElem?_getD,List.getElem?_eq_getElem hi] at h;rw[Bool.eq_false_iff];intro ha;have:=List.all_eq_true.1 ha _ (List.getElem_mem hi);rw[show (some l[i]).getD bd=l[i] from rfl,this] at h;cases h
theorem tf {l:List bD} {p:bD->Bool} (h: ∀ j,j<l.length->p (l.getD j bd)=true):l.all p=true:=by
 rw[List.all_eq_true];intro x hx;obtain ⟨i,hi,rfl⟩:=List.mem_iff_getElem.1 hx;have:=h i hi
 rwa [List.getD_eq_getElem?_getD,List.getElem?_eq_getElem hi] at this
theorem Km (h:bB L=0) (h2: ¬ (24<r.st.length\/2<r.ov)) (h3: ¬ (r.ov<0\/(r.st.length:Int)-r.ov<2)) (h4:r.st.all (bD.ok L)=false):cw L r=4:=by unfold cw;rw[if_neg (by simpa using h),if_neg h2,if_neg h3,if_pos h4]
theorem N0 (h:bB L=0) (h2: ¬ (24<r.st.length\/2<r.ov)) (h3: ¬ (r.ov<0\/(r.st.length:Int)-r.ov<2)) (h4:r.st.all (bD.ok L)=true) (h5:wh r.st=true):cw L r=5:=by unfold cw;rw[if_neg (by simpa using h),if_neg h2,if_neg h3,if_neg (by rw[h4];decide),if_pos h5]
theorem Kk (h:bB L=0) (h2: ¬ (24<r.st.length\/2<r.ov)) (h3: ¬ (r.ov<0\/(r.st.length:Int)-r.ov<2)) (h4:r.st.all (bD.ok L)=true) (h5:wh r.st=false) (h6:j9 L r.st=false):cw L r=11:=by unfold cw;rw[if_neg (by simpa using h),if_neg h2,if_neg h3,if_neg (by rw[h4];decide),if_neg (by rw[h5];decide),if_pos h6]
theorem FH (h:bB L=0) (h2: ¬ (24<r.st.length\/2<r.ov)) (h3: ¬ (r.ov<0\/(r.st.length:Int)-r.ov<2)) (h4:r.st.all (bD.ok L)=true) (h5:wh r.st=false) (h6:j9 L r.st=true):cw L r=0:=by unfold cw;rw[if_neg (by simpa using h),if_neg h2,if_neg h3,if_neg (by rw[h4];decide),if_neg (by rw[h5];decide),if_neg (by rw[h6];decide)]
end
structure mN (L:bJ) (r:jV):Prop where
 lay:bB L=0
 len:r.st.length<=24
 ov:r.ov<=2
 ov0:0<=r.ov
 two:r.ov+2<=r.st.length
 ok:r.st.all (bD.ok L)=true
 dup:wh r.st=false
 link:j9 L r.st=true
theorem cJ {L:bJ} {r:jV} (h:cw L r=0):mN L r:=by
 unfold cw at h;by_cases h1:bB L=0
 ·rw[if_neg (by simpa using h1)] at h
  split at h
  ·cases h
  ·rename_i h2
   split at h
   ·cases h
   ·rename_i h3
    split at h
    ·cases h
    ·rename_i h4
     split at h
     ·cases h
     ·rename_i h5
      split at h
      ·cases h
      ·rename_i h6
       exact ⟨h1,by omega,by omega,by omega,by omega,by simpa using h4,by simpa using h5,by simpa using h6⟩
 ·rw[if_pos h1] at h;cases h
def Mz (n:Nat) (l:List bD):List Bool:=l.foldl (fun m s=>m.set s.sec.toNat true) (List.replicate n false)
theorem JR (n:Nat) (l:List bD) (s:bD):Mz n (l++[s])=(Mz n l).set s.sec.toNat true:=by simp[Mz]
theorem MC (n:Nat) (l:List bD):(Mz n l).length=n:=by
 unfold Mz;have: ∀ (l:List bD) (m:List Bool),(l.foldl (fun m s=>m.set s.sec.toNat true) m).length=m.length:=by
  intro l
  induction l with
  |nil=>intro m;rfl
  |cons s l ih=>intro m;simp[ih]
 rw[this];simp
theorem MB (n:Nat) (l:List bD) (k:Nat) (hk:k<n):(Mz n l).getD k false=l.any fun s=>decide (s.sec.toNat=k):=by
 have: ∀ (l:List bD) (m:List Bool),k<m.length->(l.foldl (fun m s=>m.set s.sec.toNat true) m).getD k false=(m.getD k false||l.any fun s=>decide (s.sec.toNat=k)):=by
  intro l
  induction l with
  |nil=>intro m _;simp
  |cons s l ih=>
   intro m hm;rw[List.foldl_cons,ih _ (by simpa using hm),List.any_cons];by_cases h:s.sec.toNat=k
   ·rw[decide_eq_true h,List.getD_eq_getElem?_getD,h,List.getElem?_set_self hm]
    simp
   ·rw[decide_eq_false h,List.getD_eq_getElem?_getD,List.getElem?_set_ne h,← List.getD_eq_getElem?_getD]
    simp
 unfold Mz;rw[this l _ (by simpa using hk)];simp[List.getD_eq_getElem?_getD,hk]
theorem MA {L:bJ} {st:List bD} (hok:st.all (bD.ok L)=true) {i:Nat} (hi:i<st.length):(Mz L.secs.length (st.take i)).getD (st.getD i bd).sec.toNat false=iM st i:=by
 have hs: ∀ j (h:j<st.length),0<=st[j].sec/\st[j].sec<L.secs.length:=fun j h=>by
  obtain ⟨a,b,_⟩:=dE (List.all_eq_true.1 hok _ (List.getElem_mem h));exact ⟨a,b⟩
 have hg:st.getD i bd=st[i]:=by rw[List.getD_eq_getElem?_getD,List.getElem?_eq_getElem hi];rfl
 have h1:=hs i hi;rw[MB _ _ _ (by rw[hg];omega)];unfold iM;rw[hg];apply Bool.eq_iff_iff.2;simp only[List.any_eq_true,decide_eq_true_eq];constructor
 ·rintro ⟨x,hx,e⟩
  obtain ⟨j,hj,rfl⟩:=List.mem_iff_getElem.1 (List.mem_of_mem_take hx);have:=hs j hj;exact ⟨_,hx,by omega⟩
 ·rintro ⟨x,hx,e⟩
  exact ⟨x,hx,by rw[e]⟩
theorem x3 {st:List bD} {i:Nat} (hi:i<st.length):st.take (i+1)=st.take i++[st.getD i bd]:=by
 rw[List.take_succ_eq_append_getElem hi,List.getD_eq_getElem?_getD,List.getElem?_eq_getElem hi];rfl
theorem yV {st:List bD} {i:Nat} (hi:i<st.length) (h:iM st i=true):wh st=true:=List.any_eq_true.2 ⟨i,List.mem_range.2 hi,h⟩
theorem yU {st:List bD} (h: ∀ j,j<st.length->iM st j=false):wh st=false:=by
 unfold wh;rw[Bool.eq_false_iff];intro ha;obtain ⟨i,hi,h1⟩:=List.any_eq_true.1 ha;rw[h i (List.mem_range.1 hi)] at h1;cases h1
theorem Fp {L:bJ} {st:List bD} {i:Nat} (hi:i+1<st.length) (h:(iw L st i).isSome=false):j9 L st=false:=by
 unfold j9;rw[Bool.eq_false_iff];intro ha;have:=List.all_eq_true.1 ha i (List.mem_range.2 (by omega));rw[this] at h;cases h
theorem qf {L:bJ} {st:List bD} (h: ∀ j,j+1<st.length->(iw L st j).isSome=true):j9 L st=true:=by
 unfold j9;rw[List.all_eq_true];intro i hi;exact h i (by have:=List.mem_range.1 hi;omega)
theorem G8 (L:bJ) (st:List bD) (i:Nat):DT L st (i+1)=DT L st i++[((iw L st i).map rR.pt).getD 0]:=by
 unfold DT;rw[List.range_succ,List.map_append];rfl
theorem J7 (L:bJ) (st:List bD) (i:Nat):(DT L st i).length=i:=by simp[DT]
theorem dY {L:bJ} {st:List bD} (h:st.all (bD.ok L)=true) {i:Nat} (hi:i<st.length):(st.getD i bd).ok L=true:=by
 rw[List.getD_eq_getElem?_getD,List.getElem?_eq_getElem hi];exact List.all_eq_true.1 h _ (List.getElem_mem hi)
theorem K4 {L:bJ} (hv:bB L=0) {st:List bD} (h:st.all (bD.ok L)=true) {i:Nat} (hi:i+1<st.length):kH L (st.getD i bd) (st.getD (i+1) bd)=(iw L st i).map rR.pt:=
 my hv (dE (dY h (by omega))).2.2 (dE (dY h hi)).2.2
abbrev lQ (L:bJ):Option SB:=some (.cells [ed L.sts,ed L.pts,mJ L.secs,kC L.lnks])
abbrev kK (st:List bD) (ov:Int):Option SB:=some (.cells [mK st,xI ov])
abbrev IX (l:List Bool):Option SB:=some (.bF 1 NK N7 NQ false l)
theorem L5 (st:List bD) (i:Nat):(st.drop 1).getD i bd=st.getD (i+1) bd:=by
 simp[List.getD_eq_getElem?_getD,List.getElem?_drop,Nat.add_comm]
theorem G7 (L:bJ) (hL:bZ L) (st:List bD) (ov:Int) (hl:st.length<=9223372036854775807) (ho: -9223372036854775808<=ov/\ov<=9223372036854775807):cd Tryz.prog 188 [bK L,.agg [mK st,xI ov]] [] (.cC [.c (fN (if cw L ⟨st,ov⟩=0 then DT L st (st.length-1) else [])),.c (xI (cw L ⟨st,ov⟩))]) []:=by
 have hC:=wY L hL;have hl3:=hL.m3;unfold bK at hC⊢
 refine FQ Tryz.func188 ?_;simp only[cu,Nat.zero_add,Nat.reduceAdd]
 repeat' (first|with_reducible (first|refine ab ?_ ?_|exact True.intro|exact bu.nil _|refine DQ ?_|fail)|((with_reducible apply aC);refine an (hC) rfl ?_)|((with_reducible apply bH);intro hbq;(try simp only[bq] at hbq);(try (exfalso;omega)))|refine RQ ?_|omega)
 ·rw[NZ hbq];rfl
 ·rename_i a1 a2
  rw[Kn a1 (.inl (by simp only;omega))];rfl
 ·rename_i a1 a2
  rw[Kn a1 (.inr hbq)];rfl
 ·rename_i a1 a2 a3 a4
  rw[Kl a1 (by simp only;omega) (.inl hbq)];rfl
 ·rename_i a1 a2 a3 a4
  rw[Kl a1 (by simp only;omega) (.inr hbq)];rfl
 rename_i a1 a2 a3 a4;clear hC;have b2: ¬ (24<st.length\/2<ov):=by omega
 have b3: ¬ (ov<0\/(st.length:Int)-ov<2):=by omega
 have hV:=df a1;have hn3:=hV.n3;refine aH (fun i:Nat=>SS [sC 2 (pB 0),sC 3 (pB 1),sC 40 (mK st),sI 41 st.length,sI 42 i] [lQ L,kK st ov]) (fun i=>i<=st.length/\ ∀ j,j<i->(st.getD j bd).ok L=true) (fun i=>st.length-i) 0 ?_ ⟨by omega,fun j hj=>by omega⟩ ?_
 ·
  refine WQ ?_ ?_<;>repeat' (first|with_reducible (first|refine KQ ?_|refine ab ?_ ?_|exact True.intro)|refine ax rfl ?_ ?_|exact aE.ah|exact aE.ao|exact aE.al|refine aN.cells ?_ ?_|refine aN.bF ?_ ?_|refine cg.cons ?_ ?_|exact (rfl:known _=_)|exact (rfl:aF _=true)|with_reducible rfl|omega)
 intro i hi;obtain ⟨hi,hok⟩:=hi;have hS:=GO L (by omega) (st.getD (i:Int).toNat bd);unfold bK at hS
 repeat' (first|with_reducible (first|exact VQ|refine ab ?_ ?_|exact True.intro|exact bu.nil _|refine DQ ?_|assumption)|((with_reducible apply aC);refine an (hS) rfl ?_)|((with_reducible apply bH);intro hbq;(try simp only[bq] at hbq);(try (exfalso;omega)))|refine RQ ?_|omega|(dsimp only;omega))
 ·rw[Km (r:=⟨st,ov⟩) a1 b2 b3 (IK (l:=st) (i:=i) (by omega) (by simpa using hbq))];rfl
 ·
  refine az (i+1) ?_ (⟨by omega,bR hok (by simpa using hbq)⟩) (by (try dsimp only);omega);refine WQ ?_ ?_<;>repeat' (first|with_reducible (first|refine KQ ?_|refine ab ?_ ?_|exact True.intro)|refine ax rfl ?_ ?_|exact aE.ah|exact aE.ao|exact aE.al|refine aN.cells ?_ ?_|refine aN.bF ?_ ?_|refine cg.cons ?_ ?_|exact (rfl:known _=_)|exact (rfl:aF _=true)|with_reducible rfl|omega)
 have hie:i=st.length:=by omega
 subst hie;clear hS;have b4:st.all (bD.ok L)=true:=tf hok;clear hok hi hbq;refine aH (fun i:Nat=>SS [sC 2 (pB 0),sC 3 (pB 1),sC 8 (.c (.arr 2 0 L.secs.length L.secs.length)),sC 56 (mK st),sI 57 st.length,sI 58 i] [lQ L,kK st ov,IX (Mz L.secs.length (st.take i))]) (fun i=>i<=st.length/\ ∀ j,j<i->iM st j=false) (fun i=>st.length-i) 0 ?_ ⟨by omega,fun j hj=>by omega⟩ ?_
 ·
  refine WQ ?_ ?_<;>repeat' (first|with_reducible (first|refine KQ ?_|refine ab ?_ ?_|exact True.intro)|refine ax rfl ?_ ?_|exact aE.ah|exact aE.ao|exact aE.al|refine aN.cells ?_ ?_|refine aN.bF ?_ ?_|refine cg.cons ?_ ?_|exact (rfl:known _=_)|exact (rfl:aF _=true)|with_reducible rfl|omega)
  all_goals rfl
 intro i hi;obtain ⟨hi,hno⟩:=hi;have hsec:(i:Int)<st.length->0<=(st.getD (i:Int).toNat { sec:=0,dir:=0 }).sec/\(st.getD (i:Int).toNat { sec:=0,dir:=0 }).sec<L.secs.length:=fun h=>by
  obtain ⟨x,y,_⟩:=dE (dY (i:=i) b4 (by omega));exact ⟨x,y⟩
 have hml:=MC L.secs.length (st.take i);have hd:i<st.length->_:=fun h=>MA b4 (i:=i) h
 repeat' (first|with_reducible (first|exact VQ|refine ab ?_ ?_|exact True.intro|exact bu.nil _|refine DQ ?_|assumption)|((with_reducible apply bH);intro hbq;(try simp only[bq] at hbq);(try (exfalso;omega)))|refine RQ ?_|(intro _;exact rfl)|omega)
 ·rename_i c1
  rw[N0 (r:=⟨st,ov⟩) a1 b2 b3 b4 (yV (st:=st) (i:=i) (by omega) (by rw[← hd (by omega)];exact hbq))];rfl
 ·rfl
 ·rename_i c1
  refine az (i+1) ?_ (⟨by omega,bR hno (by rw[← hd (by omega)];exact hbq)⟩) (by (try dsimp only);omega);refine WQ ?_ ?_<;>repeat' (first|with_reducible (first|refine KQ ?_|refine ab ?_ ?_|exact True.intro)|refine ax rfl ?_ ?_|exact aE.ah|exact aE.ao|exact aE.al|refine aN.cells ?_ ?_|refine aN.bF ?_ ?_|refine cg.cons ?_ ?_|exact (rfl:known _=_)|exact (rfl:aF _=true)|with_reducible rfl|omega)
  all_goals (rw[x3 (by omega),JR];rfl)
 have hie:i=st.length:=by omega
 subst hie;have b5:wh st=false:=yU hno;clear hno hi hbq hd hsec hml;refine aH (fun i:Nat=>SS [sC 2 (pB 0),sC 3 (pB 1),sC 11 (ph (DT L st i)),sC 74 (mK (st.drop 1)),sI 75 (st.length-1:Nat),sI 76 i] [lQ L,kK st ov]) (fun i=>i<=st.length-1/\ ∀ j,j<i->(iw L st j).isSome=true) (fun i=>st.length-1-i) 0 ?_ ⟨by omega,fun j hj=>by omega⟩ ?_
 ·
  refine WQ ?_ ?_<;>repeat' (first|with_reducible (first|refine KQ ?_|refine ab ?_ ?_|exact True.intro)|refine ax rfl ?_ ?_|exact aE.ah|exact aE.ao|exact aE.al|refine aN.cells ?_ ?_|refine aN.bF ?_ ?_|refine cg.cons ?_ ?_|exact (rfl:known _=_)|exact (rfl:aF _=true)|with_reducible rfl|omega)
  all_goals first
   |rfl
   |(rw[List.length_drop];rfl)
 intro i hi;obtain ⟨hi,hno⟩:=hi;have hT:=wD L hV (st.getD (i:Int).toNat bd) ((st.drop 1).getD (i:Int).toNat bd);have hl1:(st.drop 1).length=st.length-1:=List.length_drop;have hl2:=J7 L st i;unfold bK at hT
 have e:i+1<st.length->kH L (st.getD (i:Int).toNat bd) ((st.drop 1).getD (i:Int).toNat bd)=(iw L st i).map rR.pt:=fun h=>by
  rw[show (st.drop 1).getD (i:Int).toNat bd=st.getD (i+1) bd from L5 st i];exact K4 a1 b4 h
 generalize kH L (st.getD (i:Int).toNat bd) ((st.drop 1).getD (i:Int).toNat bd)=x at hT e
 repeat' (first|with_reducible (first|exact BQ|exact VQ|refine ab ?_ ?_|exact True.intro|exact bu.nil _|refine DQ ?_|fail)|((with_reducible apply aC);refine an (hT) rfl ?_)|((with_reducible apply bH);intro hbq;(try simp only[bq] at hbq);(try (exfalso;omega)))|refine RQ ?_|((with_reducible apply db);rfl)|omega)
 ·rename_i c1
  have e:=e (by omega);rw[Kk (r:=⟨st,ov⟩) a1 b2 b3 b4 b5 (Fp (i:=i) (by simp only;omega) (by rw[e,Option.isSome_map] at hbq;exact hbq))];rfl
 ·rename_i c1
  have e:=e (by omega);refine az (i+1) ?_ (⟨by omega,bR hno (by rw[e,Option.isSome_map] at hbq;exact hbq)⟩) (by (try dsimp only);omega);refine WQ ?_ ?_<;>repeat' (first|with_reducible (first|refine KQ ?_|refine ab ?_ ?_|exact True.intro)|refine ax rfl ?_ ?_|exact aE.ah|exact aE.ao|exact aE.al|refine aN.cells ?_ ?_|refine aN.bF ?_ ?_|refine cg.cons ?_ ?_|exact (rfl:known _=_)|exact (rfl:aF _=true)|with_reducible rfl|omega)
  all_goals (rw[G8,← e];simp[ez,fI])
 ·have hie:i=st.length-1:=by omega
  subst hie;rw[FH (r:=⟨st,ov⟩) a1 b2 b3 b4 b5 (qf fun j hj=>hno j (by simp only at hj;omega)),if_pos rfl];rfl
theorem sH (L:bJ) (hL:bZ L) (st:List bD) (ov:Int) (hl:st.length<=9223372036854775807) (ho: -9223372036854775808<=ov/\ov<=9223372036854775807):cd Tryz.prog 145 [bK L,.agg [mK st,xI ov]] [] (vI (cw L ⟨st,ov⟩)) []:=by
 have hP:=G7 L hL st ov hl ho;unfold bK at hP⊢
 refine FQ Tryz.func145 ?_;simp only[cu,Nat.zero_add,Nat.reduceAdd]
 repeat' (first|with_reducible (first|refine ab ?_ ?_|exact True.intro|exact bu.nil _|refine DQ ?_|fail)|((with_reducible apply aC);refine an (hP) rfl ?_)|refine RQ ?_|fail)
 repeat' (first|with_reducible (first|refine KQ ?_|exact True.intro)|refine mB.c ?_)
theorem NO (n lo hi:Int):cd Tryz.prog 105 [.c (xI n),.c (xI lo),.c (xI hi)] [] (vB (decide (lo<=n)&&decide (n<=hi))) []:=by
 refine FQ Tryz.func105 ?_;simp only[cu,Nat.zero_add,Nat.reduceAdd]
 repeat' (first|with_reducible (first|refine ab ?_ ?_|exact True.intro|exact bu.nil _|assumption)|refine RQ ?_|(intro (hgq:(_:Bool)=true);(try simp only[bq] at hgq))|((with_reducible apply cH);simp only[bq]))
 repeat' (first|with_reducible (first|refine KQ ?_|exact True.intro)|refine mB.c ?_)
theorem OM {st:List bD} {i j:Nat} (hi:i<st.length) (hj:j<i) (h:(st.getD j bd).sec=(st.getD i bd).sec):iM st i=true:=by
 unfold iM;rw[List.any_eq_true];refine ⟨st.getD j bd,?_,by simpa using h⟩;rw[List.getD_eq_getElem?_getD,List.getElem?_eq_getElem (by omega)];rw[List.mem_take_iff_getElem];exact ⟨j,by omega,rfl⟩
theorem L6 {st:List bD} {i:Nat} (hi:i<st.length) (h: ∀ j,j<i->(st.getD j bd).sec≠(st.getD i bd).sec):iM st i=false:=by
 unfold iM;rw[List.any_eq_false];intro x hx;rw[List.mem_take_iff_getElem] at hx;obtain ⟨j,hj,rfl⟩:=hx;have:=h j (by omega);rw[List.getD_eq_getElem?_getD,List.getElem?_eq_getElem (by omega)] at this;simpa using this
theorem Hd (L:bJ) (hL:bZ L) (st:List bD) (ov:Int) (hl:st.length<=9223372036854775807) (ho: -9223372036854775808<=ov/\ov<=9223372036854775807):cd Tryz.prog 67 [bK L,.agg [mK st,xI ov]] [] (vI (cw L ⟨st,ov⟩)) []:=by
 have hC:=qs L hL;have hl3:=hL.m3;unfold bK at hC⊢
 refine FQ Tryz.func67 ?_;simp only[cu,Nat.zero_add,Nat.reduceAdd]
 repeat' (first|with_reducible (first|refine ab ?_ ?_|exact True.intro|exact bu.nil _|refine DQ ?_|assumption)|((with_reducible apply aC);refine an (hC) rfl ?_)|((with_reducible apply bH);intro hbq;(try simp only[bq] at hbq);(try (exfalso;omega)))|refine RQ ?_|(intro (hgq:(_:Bool)=true);(try simp only[bq] at hgq))|(intro (hgq:(_:Bool)=false);(try simp only[bq] at hgq))|((with_reducible apply cH);simp only[bq])|omega)
 ·rw[NZ hbq];rfl
 ·rename_i a1
  rw[Kn (by omega) (by simp only;omega)];rfl
 ·rename_i a1 a2
  rw[Kl (by omega) (by simp only;omega) (by simp only;omega)];rfl
 rename_i a1 a2;clear hC;have b1:bB L=0:=by omega
 have b2: ¬ (24<st.length\/2<ov):=by omega
 have b3: ¬ (ov<0\/(st.length:Int)-ov<2):=by omega
 have hV:=df b1;have hn3:=hV.n3;refine aH (fun i:Nat=>SS [sC 2 (pB 0),sC 3 (pB 1),sI 5 i] [lQ L,kK st ov]) (fun i=>i<=st.length/\ ∀ j,j<i->(st.getD j bd).ok L=true) (fun i=>st.length-i) 0 ?_ ⟨by omega,fun j hj=>by omega⟩ ?_
 ·
  refine WQ ?_ ?_<;>repeat' (first|with_reducible (first|refine KQ ?_|refine ab ?_ ?_|exact True.intro)|refine ax rfl ?_ ?_|exact aE.ah|exact aE.ao|exact aE.al|refine aN.cells ?_ ?_|refine aN.bF ?_ ?_|refine cg.cons ?_ ?_|exact (rfl:known _=_)|exact (rfl:aF _=true)|with_reducible rfl|omega)
 intro i hi;obtain ⟨hi,hok⟩:=hi;have h1:=NO (st.getD (i:Int).toNat bd).sec 0 (L.secs.length-1);have h2:=NO (st.getD (i:Int).toNat bd).dir 0 1
 repeat' (first|with_reducible (first|exact BQ|exact VQ|refine ab ?_ ?_|exact True.intro|exact bu.nil _|refine DQ ?_|assumption)|((with_reducible apply aC);refine an (h1) rfl ?_)|((with_reducible apply aZ);refine aX ((fun _=>h2)) rfl ?_ ?_)|((with_reducible apply bH);intro hbq;(try simp only[bq] at hbq);(try (exfalso;omega)))|refine RQ ?_|(intro (hgq:(_:Bool)=true);(try simp only[bq] at hgq))|(intro (hgq:(_:Bool)=false);(try simp only[bq] at hgq))|((with_reducible apply cH);simp only[bq])|(simp only[hgq,bq];done)|omega)
 ·have hb:(st.getD (i:Int).toNat bd).ok L=false:=by
   unfold bD.ok;simp only[Bool.and_eq_false_iff,Bool.or_eq_false_iff,decide_eq_false_iff_not];omega
  rw[Km (r:=⟨st,ov⟩) b1 b2 b3 (IK (l:=st) (i:=i) (by omega) hb)];rfl
 ·have hb:(st.getD (i:Int).toNat bd).ok L=true:=by
   unfold bD.ok;simp only[Bool.and_eq_true,Bool.or_eq_true,decide_eq_true_eq];omega
  refine az (i+1) ?_ (⟨by omega,bR hok hb⟩) (by (try dsimp only);omega);refine WQ ?_ ?_<;>repeat' (first|with_reducible (first|refine KQ ?_|refine ab ?_ ?_|exact True.intro)|refine ax rfl ?_ ?_|exact aE.ah|exact aE.ao|exact aE.al|refine aN.cells ?_ ?_|refine aN.bF ?_ ?_|refine cg.cons ?_ ?_|exact (rfl:known _=_)|exact (rfl:aF _=true)|with_reducible rfl|omega)
 have hie:i=st.length:=by omega
 subst hie;clear h1 h2;have b4:st.all (bD.ok L)=true:=tf hok;clear hok hi hbq;refine aH (fun i:Nat=>SS [sC 2 (pB 0),sC 3 (pB 1),sI 6 i] [lQ L,kK st ov]) (fun i=>i<=st.length/\ ∀ j,j<i->iM st j=false) (fun i=>st.length-i) 0 ?_ ⟨by omega,fun j hj=>by omega⟩ ?_
 ·
  refine WQ ?_ ?_<;>repeat' (first|with_reducible (first|refine KQ ?_|refine ab ?_ ?_|exact True.intro)|refine ax rfl ?_ ?_|exact aE.ah|exact aE.ao|exact aE.al|refine aN.cells ?_ ?_|refine aN.bF ?_ ?_|refine cg.cons ?_ ?_|exact (rfl:known _=_)|exact (rfl:aF _=true)|with_reducible rfl|omega)
 intro i hi;obtain ⟨hi,hno⟩:=hi
 repeat' (first|with_reducible (first|refine ab ?_ ?_|exact True.intro|refine DQ ?_|fail)|((with_reducible apply bH);intro hbq;(try simp only[bq] at hbq);(try (exfalso;omega)))|refine RQ ?_|fail)
 ·rename_i c1
  refine aH (fun k:Nat=>SS [sC 2 (pB 0),sC 3 (pB 1),sI 6 i,sI 7 k] [lQ L,kK st ov]) (fun k=>k<=i/\ ∀ j,j<k->(st.getD j bd).sec≠(st.getD (i:Int).toNat bd).sec) (fun k=>i-k) 0 ?_ ⟨by omega,fun j hj=>by omega⟩ ?_
  ·
   refine WQ ?_ ?_<;>repeat' (first|with_reducible (first|refine KQ ?_|refine ab ?_ ?_|exact True.intro)|refine ax rfl ?_ ?_|exact aE.ah|exact aE.ao|exact aE.al|refine aN.cells ?_ ?_|refine aN.bF ?_ ?_|refine cg.cons ?_ ?_|exact (rfl:known _=_)|exact (rfl:aF _=true)|with_reducible rfl|omega)
  intro k hk;obtain ⟨hk,hne⟩:=hk
  repeat' (first|with_reducible (first|exact BQ|exact VQ|refine ab ?_ ?_|exact True.intro|exact bu.nil _|refine DQ ?_|assumption)|((with_reducible apply bH);intro hbq;(try simp only[bq] at hbq);(try (exfalso;omega)))|refine RQ ?_|omega)
  ·rw[N0 (r:=⟨st,ov⟩) b1 b2 b3 b4 (yV (st:=st) (i:=i) (by omega) (OM (j:=k) (by omega) (by omega) (by simpa using hbq)))];rfl
  ·
   refine az (k+1) ?_ (⟨by omega,bR hne (by simpa using hbq)⟩) (by (try dsimp only);omega);refine WQ ?_ ?_<;>repeat' (first|with_reducible (first|refine KQ ?_|refine ab ?_ ?_|exact True.intro)|refine ax rfl ?_ ?_|exact aE.ah|exact aE.ao|exact aE.al|refine aN.cells ?_ ?_|refine aN.bF ?_ ?_|refine cg.cons ?_ ?_|exact (rfl:known _=_)|exact (rfl:aF _=true)|with_reducible rfl|omega)
  ·have hki:k=i:=by omega
   subst hki;refine az (k+1) ?_ (⟨by omega,bR hno (L6 (by omega) (by simpa using hne))⟩) (by (try dsimp only);omega);refine WQ ?_ ?_<;>repeat' (first|with_reducible (first|refine KQ ?_|refine ab ?_ ?_|exact True.intro)|refine ax rfl ?_ ?_|exact aE.ah|exact aE.ao|exact aE.al|refine aN.cells ?_ ?_|refine aN.bF ?_ ?_|refine cg.cons ?_ ?_|exact (rfl:known _=_)|exact (rfl:aF _=true)|with_reducible rfl|omega)
 have hie:i=st.length:=by omega
 subst hie;have b5:wh st=false:=yU hno;clear hno hi hbq;refine aH (fun i:Nat=>SS [sC 2 (pB 0),sC 3 (pB 1),sI 8 (i+1:Nat)] [lQ L,kK st ov]) (fun i=>i<=st.length-1/\ ∀ j,j<i->(iw L st j).isSome=true) (fun i=>st.length-1-i) 0 ?_ ⟨by omega,fun j hj=>by omega⟩ ?_
 ·
  refine WQ ?_ ?_<;>repeat' (first|with_reducible (first|refine KQ ?_|refine ab ?_ ?_|exact True.intro)|refine ax rfl ?_ ?_|exact aE.ah|exact aE.ao|exact aE.al|refine aN.cells ?_ ?_|refine aN.bF ?_ ?_|refine cg.cons ?_ ?_|exact (rfl:known _=_)|exact (rfl:aF _=true)|with_reducible rfl|omega)
 intro i hi;obtain ⟨hi,hno⟩:=hi;have hJ:=GP L (st.getD (((i+1:Nat):Int)-1).toNat bd) (st.getD ((i+1:Nat):Int).toNat bd) hV;have e1:(((i+1:Nat):Int)-1).toNat=i:=by omega
 have e2:ij L (st.getD (((i+1:Nat):Int)-1).toNat bd) (st.getD ((i+1:Nat):Int).toNat bd)=iw L st i:=by rw[e1,Int.toNat_natCast];rfl
 rw[e2] at hJ;unfold bK at hJ
 repeat' (first|with_reducible (first|exact BQ|exact VQ|refine ab ?_ ?_|exact True.intro|exact bu.nil _|refine DQ ?_|assumption)|((with_reducible apply aC);refine an (hJ) rfl ?_)|((with_reducible apply bH);intro hbq;(try simp only[bq] at hbq);(try (exfalso;omega)))|refine RQ ?_|omega)
 ·rw[Kk (r:=⟨st,ov⟩) b1 b2 b3 b4 b5 (Fp (i:=i) (by simp only;omega) hbq)];rfl
 ·
  refine az (i+1) ?_ (⟨by omega,bR hno hbq⟩) (by (try dsimp only);omega);refine WQ ?_ ?_<;>repeat' (first|with_reducible (first|refine KQ ?_|refine ab ?_ ?_|exact True.intro)|refine ax rfl ?_ ?_|exact aE.ah|exact aE.ao|exact aE.al|refine aN.cells ?_ ?_|refine aN.bF ?_ ?_|refine cg.cons ?_ ?_|exact (rfl:known _=_)|exact (rfl:aF _=true)|with_reducible rfl|omega)
 ·rw[FH (r:=⟨st,ov⟩) b1 b2 b3 b4 b5 (qf fun j hj=>hno j (by simp only at hj;omega))];rfl
abbrev fP (L:bJ) (s:bD):eP:=L.secs.getD s.sec.toNat cD
def uA (L:bJ) (s:bD):Int×Int:=((fP L s).lim,if s.dir=1 then -(fP L s).grd else (fP L s).grd)
def fg (L:bJ) (s:bD):List (Int×Int):=List.replicate (fP L s).len.toNat (uA L s)
def dZ (L:bJ) (l:List bD):List (Int×Int):=l.flatMap (fg L)
def bN (r:jV):List bD:=r.st.take ((r.st.length:Int)-r.ov).toNat
def cZ (L:bJ) (r:jV):Int:=if cw L r≠0 then cw L r else if 4000<(dZ L (bN r)).length then 7 else 0
def oO (L:bJ) (r:jV):List (Int×Int):=if cZ L r=0 then dZ L (bN r) else []
def dL (L:bJ) (r:jV):Int:=if cZ L r=0 then (fP L (r.st.getD 0 bd)).len else 0
theorem AK {L:bJ} {r:jV} (h: ¬ cw L r=0):cZ L r=cw L r:=if_pos h
theorem uy {L:bJ} {r:jV} (h:cw L r=0) (h2:4000<(dZ L (bN r)).length):cZ L r=7:=by unfold cZ;rw[if_neg (by simpa using h),if_pos h2]
theorem ux {L:bJ} {r:jV} (h:cw L r=0) (h2: ¬ 4000<(dZ L (bN r)).length):cZ L r=0:=by unfold cZ;rw[if_neg (by simpa using h),if_neg h2]
theorem jq (L:bJ) {l:List bD} {i:Nat} (h:i<l.length):dZ L (l.take (i+1))=dZ L (l.take i)++fg L (l.getD i bd):=by
 unfold dZ;rw[x3 h,List.flatMap_append];simp
theorem vL {L:bJ} (hV:Valid L) {i:Nat} (h:i<L.secs.length):kD L.sts.length (L.secs.getD i cD)=true:=by
 rw[List.getD_eq_getElem?_getD,List.getElem?_eq_getElem h];exact (hV.v3 _ (List.getElem_mem h)).2
theorem uz {L:bJ} (hV:Valid L): ∀ {l:List bD},l.all (bD.ok L)=true->(dZ L l).length<=400*l.length
 |[],_=>Nat.le_refl _
 |s::l,h=>by
  rw[List.all_cons,Bool.and_eq_true] at h;have ih:=uz hV h.2;obtain ⟨a,b,_⟩:=dE h.1;have h2:=mr (vL hV (i:=s.sec.toNat) (by omega));have:(fg L s).length<=400:=by unfold fg fP;rw[List.length_replicate];omega
  unfold dZ at ih⊢;rw[List.flatMap_cons,List.length_append,List.length_cons];omega
theorem pJ {L:bJ} {l:List bD} (h:l.all (bD.ok L)=true) (n:Nat):(l.take n).all (bD.ok L)=true:=by
 rw[List.all_eq_true] at h⊢;exact fun x hx=>h x (List.mem_of_mem_take hx)
theorem sB (L:bJ) (hL:bZ L) (st:List bD) (ov:Int) (hl:st.length<=9223372036854775807) (ho: -9223372036854775808<=ov/\ov<=9223372036854775807):cd Tryz.prog 116 [bK L,.agg [mK st,xI ov]] [] (.cC [.c (eI (oO L ⟨st,ov⟩)),.c (xI (dL L ⟨st,ov⟩)),.c (xI (cZ L ⟨st,ov⟩))]) []:=by
 have hC:=Hd L hL st ov hl ho;unfold oO dL;unfold bK at hC⊢
 refine FQ Tryz.func116 ?_;simp only[cu,Nat.zero_add,Nat.reduceAdd]
 repeat' (first|with_reducible (first|refine ab ?_ ?_|exact True.intro|exact bu.nil _|refine DQ ?_|fail)|((with_reducible apply aC);refine an (hC) rfl ?_)|((with_reducible apply bH);intro hbq;(try simp only[bq] at hbq);(try (exfalso;omega)))|refine RQ ?_|fail)
 ·rw[AK hbq,if_neg hbq,if_neg hbq];rfl
 clear hC;have hr:=cJ (L:=L) (r:=⟨st,ov⟩) (by omega);obtain ⟨r1,r2,r3,r4,r5,r6,r7,r8⟩:=hr;simp only at r1 r2 r3 r4 r5 r6 r7 r8
 have hV:=df r1;have hn3:=hV.n3;refine aH (fun i:Nat=>SS [sC 2 (pB 0),sC 3 (pB 1),sC 8 (FU (dZ L (st.take i))),sI 9 i] [lQ L,kK st ov]) (fun i=>(i:Int)<=st.length-ov) (fun i=>st.length-i) 0 ?_ (by omega) ?_
 ·
  refine WQ ?_ ?_<;>repeat' (first|with_reducible (first|refine KQ ?_|refine ab ?_ ?_|exact True.intro)|refine ax rfl ?_ ?_|exact aE.ah|exact aE.ao|exact aE.al|refine aN.cells ?_ ?_|refine aN.bF ?_ ?_|refine cg.cons ?_ ?_|exact (rfl:known _=_)|exact (rfl:aF _=true)|with_reducible rfl|omega)
  all_goals rfl
 intro i hi;have hsec:(i:Int)<st.length-ov->(0<=(st.getD (i:Int).toNat { sec:=0,dir:=0 }).sec/\(st.getD (i:Int).toNat { sec:=0,dir:=0 }).sec<L.secs.length)/\((L.secs.getD (st.getD (i:Int).toNat { sec:=0,dir:=0 }).sec.toNat cD).len<=400/\1<=(L.secs.getD (st.getD (i:Int).toNat { sec:=0,dir:=0 }).sec.toNat cD).len)/\(-40<=(L.secs.getD (st.getD (i:Int).toNat { sec:=0,dir:=0 }).sec.toNat cD).grd/\(L.secs.getD (st.getD (i:Int).toNat { sec:=0,dir:=0 }).sec.toNat cD).grd<=40):=fun h=>by
  obtain ⟨x,y,_⟩:=dE (dY (i:=i) r6 (by omega));rw[Int.toNat_natCast];have h2:=mr (vL hV (i:=(st.getD i bd).sec.toNat) (by omega));exact ⟨⟨x,y⟩,⟨h2.2.1,h2.1⟩,h2.2.2.2.2.1,h2.2.2.2.2.2.1⟩
 have hs0:0<=(st.getD (Int.toNat 0) { sec:=0,dir:=0 }).sec/\(st.getD (Int.toNat 0) { sec:=0,dir:=0 }).sec<L.secs.length:=by
  obtain ⟨x,y,_⟩:=dE (dY (i:=0) r6 (by omega));exact ⟨x,y⟩
 have hcl:=uz hV (pJ r6 i);rw[List.length_take] at hcl
 repeat' (first|with_reducible (first|exact BQ|exact VQ|refine ab ?_ ?_|exact True.intro|exact bu.nil _|refine DQ ?_|fail)|((with_reducible apply bH);intro hbq;(try simp only[bq] at hbq);(try (exfalso;omega)))|refine RQ ?_|omega)
 ·rename_i c1
  generalize hS:L.secs.getD (st.getD (i:Int).toNat { sec:=0,dir:=0 }).sec.toNat cD=S at*;have hc:fg L (st.getD (i:Int).toNat { sec:=0,dir:=0 })=List.replicate S.len.toNat (S.lim,(-S.grd)):=by
   unfold fg uA fP;rw[hS]
   first|rw[if_pos hbq]|rw[if_neg hbq]
  have hs:=(hsec c1).2;clear hsec;refine aH (fun k:Nat=>SS [sC 2 (pB 0),sC 3 (pB 1),sC 8 (FU (dZ L (st.take i)++List.replicate k (S.lim,(-S.grd)))),sI 9 i,sC 10 (pB 2),sI 11 (-S.grd),sI 12 k] [lQ L,kK st ov,some (.cells [xS S.nm,xI S.len,xI S.lim,xI S.grd,xI S.stn])]) (fun k=>k<=S.len) (fun k=>S.len.toNat-k) 0 ?_ (by omega) ?_
  ·
   refine WQ ?_ ?_<;>repeat' (first|with_reducible (first|refine KQ ?_|refine ab ?_ ?_|exact True.intro)|refine ax rfl ?_ ?_|exact aE.ah|exact aE.ao|exact aE.al|refine aN.cells ?_ ?_|refine aN.bF ?_ ?_|refine cg.cons ?_ ?_|exact (rfl:known _=_)|exact (rfl:aF _=true)|with_reducible rfl|omega)
   all_goals simp
  intro k hk;have hkn:(dZ L (st.take i)++List.replicate k (S.lim,(-S.grd))).length<=20000:=by rw[List.length_append,List.length_replicate];omega
  repeat' (first|with_reducible (first|refine ab ?_ ?_|exact True.intro|refine DQ ?_|fail)|((with_reducible apply bH);intro hbq;(try simp only[bq] at hbq);(try (exfalso;omega)))|refine RQ ?_|((with_reducible apply db);rfl)|omega)
  ·
   refine az (k+1) ?_ ((by omega)) (by (try dsimp only);omega);refine WQ ?_ ?_<;>repeat' (first|with_reducible (first|refine KQ ?_|refine ab ?_ ?_|exact True.intro)|refine ax rfl ?_ ?_|exact aE.ah|exact aE.ao|exact aE.al|refine aN.cells ?_ ?_|refine aN.bF ?_ ?_|refine cg.cons ?_ ?_|exact (rfl:known _=_)|exact (rfl:aF _=true)|with_reducible rfl|omega)
   all_goals (rw[List.replicate_succ',← List.append_assoc];simp[xb,fI,Nat.add_assoc])
  ·have hkl:k=S.len.toNat:=by omega
   subst hkl;refine az (i+1) ?_ ((by omega)) (by (try dsimp only);omega);refine WQ ?_ ?_<;>repeat' (first|with_reducible (first|refine KQ ?_|refine ab ?_ ?_|exact True.intro)|refine ax rfl ?_ ?_|exact aE.ah|exact aE.ao|exact aE.al|refine aN.cells ?_ ?_|refine aN.bF ?_ ?_|refine cg.cons ?_ ?_|exact (rfl:known _=_)|exact (rfl:aF _=true)|with_reducible rfl|omega)
   all_goals (rw[jq L (by omega),← hc];try rfl)
 ·rename_i c1
  generalize hS:L.secs.getD (st.getD (i:Int).toNat { sec:=0,dir:=0 }).sec.toNat cD=S at*;have hc:fg L (st.getD (i:Int).toNat { sec:=0,dir:=0 })=List.replicate S.len.toNat (S.lim,S.grd):=by
   unfold fg uA fP;rw[hS]
   first|rw[if_pos hbq]|rw[if_neg hbq]
  have hs:=(hsec c1).2;clear hsec;refine aH (fun k:Nat=>SS [sC 2 (pB 0),sC 3 (pB 1),sC 8 (FU (dZ L (st.take i)++List.replicate k (S.lim,S.grd))),sI 9 i,sC 10 (pB 2),sI 11 S.grd,sI 12 k] [lQ L,kK st ov,some (.cells [xS S.nm,xI S.len,xI S.lim,xI S.grd,xI S.stn])]) (fun k=>k<=S.len) (fun k=>S.len.toNat-k) 0 ?_ (by omega) ?_
  ·
   refine WQ ?_ ?_<;>repeat' (first|with_reducible (first|refine KQ ?_|refine ab ?_ ?_|exact True.intro)|refine ax rfl ?_ ?_|exact aE.ah|exact aE.ao|exact aE.al|refine aN.cells ?_ ?_|refine aN.bF ?_ ?_|refine cg.cons ?_ ?_|exact (rfl:known _=_)|exact (rfl:aF _=true)|with_reducible rfl|omega)
   all_goals simp
  intro k hk;have hkn:(dZ L (st.take i)++List.replicate k (S.lim,S.grd)).length<=20000:=by rw[List.length_append,List.length_replicate];omega
  repeat' (first|with_reducible (first|refine ab ?_ ?_|exact True.intro|refine DQ ?_|fail)|((with_reducible apply bH);intro hbq;(try simp only[bq] at hbq);(try (exfalso;omega)))|refine RQ ?_|((with_reducible apply db);rfl)|omega)
  ·
   refine az (k+1) ?_ ((by omega)) (by (try dsimp only);omega);refine WQ ?_ ?_<;>repeat' (first|with_reducible (first|refine KQ ?_|refine ab ?_ ?_|exact True.intro)|refine ax rfl ?_ ?_|exact aE.ah|exact aE.ao|exact aE.al|refine aN.cells ?_ ?_|refine aN.bF ?_ ?_|refine cg.cons ?_ ?_|exact (rfl:known _=_)|exact (rfl:aF _=true)|with_reducible rfl|omega)
   all_goals (rw[List.replicate_succ',← List.append_assoc];simp[xb,fI,Nat.add_assoc])
  ·have hkl:k=S.len.toNat:=by omega
   subst hkl;refine az (i+1) ?_ ((by omega)) (by (try dsimp only);omega);refine WQ ?_ ?_<;>repeat' (first|with_reducible (first|refine KQ ?_|refine ab ?_ ?_|exact True.intro)|refine ax rfl ?_ ?_|exact aE.ah|exact aE.ao|exact aE.al|refine aN.cells ?_ ?_|refine aN.bF ?_ ?_|refine cg.cons ?_ ?_|exact (rfl:known _=_)|exact (rfl:aF _=true)|with_reducible rfl|omega)
   all_goals (rw[jq L (by omega),← hc];try rfl)
 ·have hie:i=((st.length:Int)-ov).toNat:=by omega
  subst hie;rw[uy (r:=⟨st,ov⟩) (by omega) (by unfold bN;simp only;omega)];rfl
 ·have hie:i=((st.length:Int)-ov).toNat:=by omega
  subst hie;rw[ux (r:=⟨st,ov⟩) (by omega) (by unfold bN;simp only;omega)];rfl
abbrev xU (n:Int):SC:= .c (.f (.v (.int .u64 n)))
theorem RA {a b c d:Int} (h:a=c/\b=d):(ql [ST.c (xU a),ST.c (xU b)]).den=(SV.cC [.c (xU c),.c (xU d)]).den:=by
 rw[h.1,h.2];rfl
theorem JT (n:Int) (h0:0<=n) (h1:n<512):cd Tryz.prog 249 [.c (xU 1),.c (xU n)] [] (.cC [.c (xU 0),.c (xU n)]) []:=by
 refine FQ Tryz.func249 ?_;simp only[cu,Nat.zero_add,Nat.reduceAdd]
 repeat' (first|with_reducible (first|refine ab ?_ ?_|exact True.intro|exact bu.nil _)|refine RQ ?_|omega)
 obtain ⟨m,rfl⟩:=Int.eq_ofNat_of_zero_le h0;have h2:m<512:=by omega
 clear h0 h1;apply RA
 revert m
 decide+kernel
theorem Pn (n:Int) (h0:0<=n) (h1:n<512):cd Tryz.prog 244 [.c (xU 1),.c (xU n)] [] (.cC [.c (xU 0),.c (xU n)]) []:=by
 have hM:=JT n h0 h1;refine FQ Tryz.func244 ?_;simp only[cu,Nat.zero_add,Nat.reduceAdd]
 repeat' (first|with_reducible (first|refine ab ?_ ?_|exact True.intro|exact bu.nil _|refine DQ ?_|fail)|((with_reducible apply aC);refine an (hM) rfl ?_)|((with_reducible apply bH);intro hbq;(try simp only[bq] at hbq);(try (exfalso;omega)))|refine RQ ?_|fail)
 repeat' (first|with_reducible (first|refine KQ ?_|refine ab ?_ ?_|exact True.intro)|refine mB.cC ?_)
abbrev QL (l:List (Int×Int)):Option SB:=some (.bF 2 xb FY NR (0,0) l)
theorem K7 (n:Int) (h0:0<=n) (h1:n<512):IntKind.u64.wrap n=n:=by
 simp only[IntKind.wrap];simp[IntKind.bits,IntKind.signed];omega
def rE (c:Int×Int) (n k:Nat):List (Int×Int):=List.replicate k c++List.replicate (n-k) (0,0)
theorem Rq (c:Int×Int) (N:Nat) (h:1<=N):jo (List.replicate N (0,0)) (0 / 2) (List.take (min 1 N) [c])=rE c N 1:=by
 rw[Nat.min_eq_left h];unfold jo rE;simp
theorem MU (c:Int×Int) (N k:Nat) (h2:k<=N):jo (rE c N k) k ((rE c N k).take (min k (N-k)))=rE c N (k+min k (N-k)):=by
 have e:(rE c N k).take (min k (N-k))=List.replicate (min k (N-k)) c:=by
  unfold rE;rw[List.take_append_of_le_length (by simp;omega),List.take_replicate];congr 1;omega
 rw[e];unfold jo rE;rw[List.take_append_of_le_length (by simp),List.take_of_length_le (by simp),List.drop_append,List.drop_of_length_le (by simp),List.length_replicate,List.length_replicate,List.drop_replicate,List.nil_append,← List.replicate_append_replicate];congr 2;omega
theorem xH (a b:Int) (n:Int) (h0:1<=n) (h1:n<512):cd Tryz.prog 239 [.c (.c (.f (.row [fI a,fI b] 1))),.c (xI n)] [] (.c (eI (List.replicate n.toNat (a,b)))) []:=by
 have e1:IntKind.u64.wrap n=n:=K7 n (by omega) (by omega);have e2:IntKind.u64.wrap ((1:Nat):Int)=1:=K7 1 (by omega) (by omega);have hM:cd Tryz.prog 244 [.c (xU (IntKind.u64.wrap ((1:Nat):Int))),.c (xU (IntKind.u64.wrap n))] [] (.cC [.c (xU 0),.c (xU n)]) []:=by
  rw[e1,e2];exact Pn n (by omega) h1
 refine PQ Tryz.func239 ?_;simp only[cu,Nat.zero_add,Nat.reduceAdd];have hN:(n.toNat:Int)=n:=by omega
 generalize n.toNat=N at hN⊢;subst hN;have hrl: ∀ k,k<=N->(rE (a,b) N k).length=N:=fun k hk=>by unfold rE;simp;omega
 repeat' (first|with_reducible (first|refine ab ?_ ?_|exact True.intro|refine DQ ?_|assumption)|((with_reducible apply aC);refine an (hM) rfl ?_)|((with_reducible apply bH);intro hbq;(try simp only[bq] at hbq);(try (exfalso;omega)))|refine RQ ?_|(intro (hgq:(_:Bool)=true);(try simp only[bq] at hgq))|(intro (hgq:(_:Bool)=false);(try simp only[bq] at hgq))|(intro _;exact rfl)|((with_reducible apply cH);simp only[bq])|((with_reducible apply db);rfl)|omega|(dsimp only;omega))
 ·simp
 ·rfl
 refine aH (fun k:Nat=>SS [sI 8 k,sC 7 (.c (.arr 0 0 N N))] [QL (rE (a,b) N k)]) (fun k=>1<=k/\k<=N) (fun k=>N-k) 1 ?_ (by omega) ?_
 ·
  refine WQ ?_ ?_<;>repeat' (first|with_reducible (first|refine KQ ?_|refine ab ?_ ?_|exact True.intro)|refine ax rfl ?_ ?_|exact aE.ah|exact aE.ao|exact aE.al|refine aN.cells ?_ ?_|refine aN.bF ?_ ?_|refine cg.cons ?_ ?_|exact (rfl:known _=_)|exact (rfl:aF _=true)|with_reducible rfl|omega)
  all_goals first
   |exact Rq (a,b) N (by omega)
 intro k hk;have hrk:=hrl k hk.2
 repeat' (first|with_reducible (first|exact BQ|refine ab ?_ ?_|exact True.intro|refine DQ ?_|assumption)|((with_reducible apply bH);intro hbq;(try simp only[bq] at hbq);(try (exfalso;omega)))|refine RQ ?_|(intro _;exact rfl)|((with_reducible apply db);rfl)|omega)
 ·
  refine az (k+min k (N-k)) ?_ ((by omega)) (by (try dsimp only);omega);refine WQ ?_ ?_<;>repeat' (first|with_reducible (first|refine KQ ?_|refine ab ?_ ?_|exact True.intro)|refine ax rfl ?_ ?_|exact aE.ah|exact aE.ao|exact aE.al|refine aN.cells ?_ ?_|refine aN.bF ?_ ?_|refine cg.cons ?_ ?_|exact (rfl:known _=_)|exact (rfl:aF _=true)|with_reducible rfl|omega)
  all_goals (rw[show ((k:Int).toNat:Nat)=k from rfl,show ((N:Int)-(k:Int)).toNat=N-k by omega];first|(rw[Nat.zero_add,Nat.mul_div_cancel k (by decide:0<2)];exact MU (a,b) N k hk.2))
 have hkN:k=N:=by omega
 subst hkN;rw[show rE (a,b) k k=List.replicate k (a,b) by unfold rE;simp];rfl
theorem mZ (L:bJ) (hL:bZ L) (st:List bD) (ov:Int) (hl:st.length<=9223372036854775807) (ho: -9223372036854775808<=ov/\ov<=9223372036854775807):cd Tryz.prog 228 [bK L,.agg [mK st,xI ov]] [] (.cC [.c (eI (oO L ⟨st,ov⟩)),.c (xI (dL L ⟨st,ov⟩)),.c (xI (cZ L ⟨st,ov⟩))]) []:=by
 have hC:=sH L hL st ov hl ho;have hR:cw L { st:=st,ov:=ov }=0->ov<=2/\0<=ov/\ov+2<=st.length:=fun h=>by
  have hr:=cJ h;exact ⟨hr.ov,hr.ov0,hr.two⟩
 unfold oO dL;unfold bK at hC⊢;refine FQ Tryz.func228 ?_;simp only[cu,Nat.zero_add,Nat.reduceAdd]
 repeat' (first|with_reducible (first|refine ab ?_ ?_|exact True.intro|exact bu.nil _|refine DQ ?_|fail)|((with_reducible apply aC);refine an (hC) rfl ?_)|((with_reducible apply bH);intro hbq;(try simp only[bq] at hbq);(try (exfalso;omega)))|refine RQ ?_|(intro _;exact rfl)|omega)
 ·rw[AK hbq,if_neg hbq,if_neg hbq];rfl
 clear hC;have hr:=cJ (L:=L) (r:=⟨st,ov⟩) (by omega);obtain ⟨r1,r2,r3,r4,r5,r6,r7,r8⟩:=hr;simp only at r1 r2 r3 r4 r5 r6 r7 r8
 have hV:=df r1;have hn3:=hV.n3;have htl:(st.take ((st.length:Int)-ov).toNat).length=((st.length:Int)-ov).toNat:=by rw[List.length_take];omega
 refine aH (fun i:Nat=>SS [sC 2 (pB 0),sC 3 (pB 1),sC 8 (FU (dZ L (st.take i))),sC 27 (mK (st.take ((st.length:Int)-ov).toNat)),sI 28 (st.length-ov),sI 29 i] [lQ L,kK st ov]) (fun i=>(i:Int)<=st.length-ov) (fun i=>st.length-i) 0 ?_ (by omega) ?_
 ·
  refine WQ ?_ ?_<;>repeat' (first|with_reducible (first|refine KQ ?_|refine ab ?_ ?_|exact True.intro)|refine ax rfl ?_ ?_|exact aE.ah|exact aE.ao|exact aE.al|refine aN.cells ?_ ?_|refine aN.bF ?_ ?_|refine cg.cons ?_ ?_|exact (rfl:known _=_)|exact (rfl:aF _=true)|with_reducible rfl|omega)
 intro i hi;have hg:(i:Int)<st.length-ov->(st.take ((st.length:Int)-ov).toNat).getD (i:Int).toNat { sec:=0,dir:=0 }=st.getD (i:Int).toNat { sec:=0,dir:=0 }:=fun h=>by
  rw[List.getD_eq_getElem?_getD,List.getD_eq_getElem?_getD,List.getElem?_take_of_lt (by omega)]
 have hcl:=uz hV (pJ r6 i);rw[List.length_take] at hcl
 have hs0:0<=(st.getD (Int.toNat 0) { sec:=0,dir:=0 }).sec/\(st.getD (Int.toNat 0) { sec:=0,dir:=0 }).sec<L.secs.length:=by
  obtain ⟨x,y,_⟩:=dE (dY (i:=0) r6 (by omega));exact ⟨x,y⟩
 have hsec:(i:Int)<st.length-ov->(0<=((st.take ((st.length:Int)-ov).toNat).getD (i:Int).toNat { sec:=0,dir:=0 }).sec/\((st.take ((st.length:Int)-ov).toNat).getD (i:Int).toNat { sec:=0,dir:=0 }).sec<L.secs.length)/\(1<=(L.secs.getD ((st.take ((st.length:Int)-ov).toNat).getD (i:Int).toNat { sec:=0,dir:=0 }).sec.toNat cD).len/\(L.secs.getD ((st.take ((st.length:Int)-ov).toNat).getD (i:Int).toNat { sec:=0,dir:=0 }).sec.toNat cD).len<512)/\(-40<=(L.secs.getD ((st.take ((st.length:Int)-ov).toNat).getD (i:Int).toNat { sec:=0,dir:=0 }).sec.toNat cD).grd/\(L.secs.getD ((st.take ((st.length:Int)-ov).toNat).getD (i:Int).toNat { sec:=0,dir:=0 }).sec.toNat cD).grd<=40):=fun h=>by
  rw[hg h];obtain ⟨x,y,_⟩:=dE (dY (i:=i) r6 (by omega));rw[Int.toNat_natCast];have h2:=mr (vL hV (i:=(st.getD i bd).sec.toNat) (by omega));exact ⟨⟨x,y⟩,⟨h2.1,Int.lt_of_le_of_lt h2.2.1 (by decide)⟩,h2.2.2.2.2.1,h2.2.2.2.2.2.1⟩
 generalize hT:(st.take ((st.length:Int)-ov).toNat).getD (i:Int).toNat { sec:=0,dir:=0 }=t at*;by_cases hlt:(i:Int)<st.length-ov
 ·have hX1:=xH (L.secs.getD t.sec.toNat cD).lim (-(L.secs.getD t.sec.toNat cD).grd) (L.secs.getD t.sec.toNat cD).len (hsec hlt).2.1.1 (hsec hlt).2.1.2
  have hX2:=xH (L.secs.getD t.sec.toNat cD).lim (L.secs.getD t.sec.toNat cD).grd (L.secs.getD t.sec.toNat cD).len (hsec hlt).2.1.1 (hsec hlt).2.1.2;subst hT
  repeat' (first|with_reducible (first|exact VQ|refine ab ?_ ?_|exact True.intro|refine DQ ?_|fail)|((with_reducible apply aC);first|refine an (hX1) rfl ?_|refine an (hX2) rfl ?_)|((with_reducible apply bH);intro hbq;(try simp only[bq] at hbq);(try (exfalso;omega)))|refine RQ ?_|(intro _;exact rfl)|omega)
  all_goals (try (exfalso;omega))
  all_goals (try (rw[List.length_replicate];have:=(hsec hlt).2.1;omega))
  ·generalize hSA:fP L (st.getD i bd)=SA
   have hc:fg L (st.getD i bd)=List.replicate SA.len.toNat (SA.lim,(-(SA).grd)):=by
    unfold fg uA;rw[if_pos (by rw[hg hlt,Int.toNat_natCast] at hbq;exact hbq),hSA]
   rw[hg hlt,Int.toNat_natCast];refine az (i+1) ?_ ((by omega)) (by (try dsimp only);omega);refine WQ ?_ ?_<;>repeat' (first|with_reducible (first|refine KQ ?_|refine ab ?_ ?_|exact True.intro)|refine ax rfl ?_ ?_|exact aE.ah|exact aE.ao|exact aE.al|refine aN.cells ?_ ?_|refine aN.bF ?_ ?_|refine cg.cons ?_ ?_|exact (rfl:known _=_)|exact (rfl:aF _=true)|with_reducible rfl|omega)
   all_goals (rw[jq L (by omega),hc];unfold fP at hSA;rw[hSA];simp)
  ·generalize hSA:fP L (st.getD i bd)=SA
   have hc:fg L (st.getD i bd)=List.replicate SA.len.toNat (SA.lim,(SA).grd):=by
    unfold fg uA;rw[if_neg (by rw[hg hlt,Int.toNat_natCast] at hbq;exact hbq),hSA]
   rw[hg hlt,Int.toNat_natCast];refine az (i+1) ?_ ((by omega)) (by (try dsimp only);omega);refine WQ ?_ ?_<;>repeat' (first|with_reducible (first|refine KQ ?_|refine ab ?_ ?_|exact True.intro)|refine ax rfl ?_ ?_|exact aE.ah|exact aE.ao|exact aE.al|refine aN.cells ?_ ?_|refine aN.bF ?_ ?_|refine cg.cons ?_ ?_|exact (rfl:known _=_)|exact (rfl:aF _=true)|with_reducible rfl|omega)
   all_goals (rw[jq L (by omega),hc];unfold fP at hSA;rw[hSA];simp)
 ·subst hT
  repeat' (first|with_reducible (first|exact BQ|exact VQ|refine ab ?_ ?_|exact True.intro|exact bu.nil _|refine DQ ?_|fail)|((with_reducible apply bH);intro hbq;(try simp only[bq] at hbq);(try (exfalso;omega)))|refine RQ ?_|omega)
  all_goals (try (exfalso;omega))
  ·have hie:i=((st.length:Int)-ov).toNat:=by omega
   subst hie;rw[uy (r:=⟨st,ov⟩) (by omega) (by unfold bN;simp only;omega)];rfl
  ·have hie:i=((st.length:Int)-ov).toNat:=by omega
   subst hie;rw[ux (r:=⟨st,ov⟩) (by omega) (by unfold bN;simp only;omega)];rfl
end Go.Proofs.YtjkeeocnekggfaaGreat.Av
namespace Go.Proofs.YtjkeeocnekggfaaGreat.Pl
theorem sN (a b:Int) (ha:a<0) (hb:1<=b):
  -b<a.tmod b/\a.tmod b<=0/\(a.tmod b<0->a.tmod b+b=a%b)/\(¬ a.tmod b<0->a.tmod b=a%b):=by
 have h1:=Int.emod_nonneg a (show b≠0 by omega);have h2:=Int.emod_lt_of_pos a (show 0<b by omega);have h3:=Int.tmod_eq_emod (a:=a) (b:=b);by_cases hd:b∣a
 ·have h4:a%b=0:=Int.emod_eq_zero_of_dvd hd
  rw[if_pos (Or.inr hd)] at h3;omega
 ·have h4:a%b≠0:=fun h=>hd (Int.dvd_of_emod_eq_zero h)
  rw[if_neg (by rintro (h|h);omega;exact hd h)] at h3;omega
theorem sM (a b:Int) (ha:a<0) (hb:1<=b):
  a<=a.tdiv b/\a.tdiv b<=0/\(a.tmod b<0->a<a.tdiv b/\a.tdiv b-1=a / b)/\(¬ a.tmod b<0->a.tdiv b=a / b):=by
 have h1:=Int.emod_nonneg a (show b≠0 by omega);have h2:=Int.emod_lt_of_pos a (show 0<b by omega);have h3:=Int.tmod_eq_emod (a:=a) (b:=b);have h5:=Int.tdiv_eq_ediv (a:=a) (b:=b);have e6:a.tdiv b= -((-a) / b):=by
  have:a.tdiv b= -((-a).tdiv b):=by rw[Int.neg_tdiv];omega
  rw[this,Int.tdiv_eq_ediv_of_nonneg (by omega)]
 have h7:(-a) / b*b+(-a)%b= -a:=Int.ediv_mul_add_emod (-a) b;have h8:=Int.emod_nonneg (-a) (show b≠0 by omega);have h9:0<=(-a) / b:=Int.ediv_nonneg (by omega) (by omega);have h10:(-a) / b<= -a:=Int.ediv_le_self b (by omega);have hs:b.sign=1:=Int.sign_eq_one_of_pos (by omega);by_cases hd:b∣a
 ·have h4:a%b=0:=Int.emod_eq_zero_of_dvd hd
  rw[if_pos (Or.inr hd)] at h3 h5;omega
 ·have h4:a%b≠0:=fun h=>hd (Int.dvd_of_emod_eq_zero h)
  rw[if_neg (by rintro (h|h);omega;exact hd h)] at h3 h5;rw[hs] at h5;refine ⟨by omega,by omega,fun _=>⟨?_,by omega⟩,by omega⟩;have hb2:2<=b:=by
   rcases Int.lt_or_le 1 b with h|h
   ·omega
   ·obtain rfl:b=1:=by omega
    exact absurd (Int.one_dvd a) hd
  have h11:(-a) / b*2<=(-a) / b*b:=Int.mul_le_mul_of_nonneg_left hb2 h9;omega
def cdiv (a b:Int):Int:= -((-a) / b)
theorem AI (a b:Int) (ha:0<=a) (hb:1<=b) (h:0<a%b):cdiv a b=a / b+1:=by
 unfold cdiv;have h7:a / b*b+a%b=a:=Int.ediv_mul_add_emod a b;have h2:=Int.emod_lt_of_pos a (show 0<b by omega);have: -a / b= -(a / b)-1:=by
  have h8: -a=(b-a%b)+(-(a / b)-1)*b:=by rw[Int.sub_mul,Int.neg_mul];omega
  rw[h8,Int.add_mul_ediv_right _ _ (by omega),Int.ediv_eq_zero_of_lt (by omega) (by omega)];omega
 omega
theorem wV (a b:Int) (hb:1<=b) (h:a%b=0):cdiv a b=a / b:=by
 unfold cdiv;rw[Int.neg_ediv_of_dvd (Int.dvd_of_emod_eq_zero h)];omega
theorem AH (a b:Int) (ha:a<0) (hb:1<=b):cdiv a b=a.tdiv b:=by
 unfold cdiv;have:a.tdiv b= -((-a).tdiv b):=by rw[Int.neg_tdiv];omega
 rw[this,Int.tdiv_eq_ediv_of_nonneg (by omega)]
theorem lS (a b:Int) (hb:1<=b):a<=cdiv a b*b/\cdiv a b*b<a+b:=by
 unfold cdiv;have h7:(-a) / b*b+(-a)%b= -a:=Int.ediv_mul_add_emod (-a) b;have h2:=Int.emod_lt_of_pos (-a) (show 0<b by omega);have h1:=Int.emod_nonneg (-a) (show b≠0 by omega);rw[Int.neg_mul];omega
theorem oC (a b:Int) (ha:0<=a) (hb:1<=b):0<=a / b/\a / b<=a:=by
 exact ⟨Int.ediv_nonneg ha (by omega),Int.ediv_le_self b ha⟩
def dx:Nat->Nat
 |0=>0
 |n+1=>if (dx n+1)*(dx n+1)<=n+1 then dx n+1 else dx n
theorem oY (n:Nat):dx n*dx n<=n/\n<(dx n+1)*(dx n+1):=by
 induction n with
 |zero=>simp[dx]
 |succ n ih=>
  unfold dx;split
  ·rename_i h
   refine ⟨h,?_⟩;have:(dx n+1+1)*(dx n+1+1)=(dx n+1)*(dx n+1)+2*(dx n+1)+1:=by
    simp[Nat.add_mul,Nat.mul_add];omega
   omega
  ·omega
theorem je (n r:Nat) (h1:r*r<=n) (h2:n<(r+1)*(r+1)):r=dx n:=by
 obtain ⟨h3,h4⟩:=oY n;rcases Nat.lt_trichotomy r (dx n) with h|h|h
 ·have:=Nat.mul_le_mul (show r+1<=dx n by omega) (show r+1<=dx n by omega);omega
 ·exact h
 ·have:=Nat.mul_le_mul (show dx n+1<=r by omega) (show dx n+1<=r by omega);omega
theorem uX {m n:Nat} (h:m<=n):dx m<=dx n:=by
 obtain ⟨h1,h2⟩:=oY m;obtain ⟨h3,h4⟩:=oY n;rcases Nat.lt_or_ge (dx n) (dx m) with h5|h5
 ·have:=Nat.mul_le_mul (show dx n+1<=dx m by omega) (show dx n+1<=dx m by omega);omega
 ·exact h5
end Go.Proofs.YtjkeeocnekggfaaGreat.Pl
namespace Go.Proofs.YtjkeeocnekggfaaGreat
def ic (l sp ac br:Int):Bool:=decide (1<=l/\l<=40/\1000<=sp/\sp<=100000/\100<=ac/\ac<=2000/\100<=br/\br<=2000)
theorem iu {l sp ac br:Int} (h:ic l sp ac br=true):1<=l/\l<=40/\1000<=sp/\sp<=100000/\100<=ac/\ac<=2000/\100<=br/\br<=2000:=by
 simpa[ic] using h
def ng (g ac:Int):Int:=20000*(if 0<g then max 50 (ac-10*g) else ac)
def ma (g br:Int):Int:=20000*(if g<0 then max 50 (br+10*g) else br)
def eG (c:Int×Int):Bool:=decide (1000<=c.1/\c.1<=100000/\ -40<=c.2/\c.2<=40)
theorem cell_of {c:Int×Int} (h:eG c=true):1000<=c.1/\c.1<=100000/\ -40<=c.2/\c.2<=40:=by simpa[eG] using h
theorem lW (g ac:Int) (h5:100<=ac) (h6:ac<=2000):1000000<=ng g ac/\ng g ac<=40000000:=by unfold ng;split<;>omega
theorem mb (g br:Int) (h5:100<=br) (h6:br<=2000):1000000<=ma g br/\ma g br<=40000000:=by unfold ma;split<;>omega
theorem lX {α:Type} (cs:List α) (d:α) {k:Nat} (h:k<cs.length):cs.getD k d=cs[k]:=by simp[List.getD,h]
def dy (cs:List (Int×Int)) (start l sp ac br:Int):Int:=
 if ic l sp ac br=false then 1 else if 4000<cs.length then 7 else if cs.all eG=false then 4 else if start<0\/(cs.length:Int)-2<start then 4 else 0
def cU (cs:List (Int×Int)) (k l:Nat) (sp:Int):Int:=((cs.take (k+1)).drop (k-l)).foldl (fun m c=>min m c.1) sp
def sq (cs:List (Int×Int)) (lo j:Nat) (sp:Int):Int:=((cs.drop lo).take j).foldl (fun m c=>min m c.1) sp
theorem Dx (cs:List (Int×Int)) (lo:Nat) (sp:Int):sq cs lo 0 sp=sp:=by simp[sq]
theorem Dw (cs:List (Int×Int)) (lo j:Nat) (sp:Int) (h:lo+j<cs.length):sq cs lo (j+1) sp=min (sq cs lo j sp) (cs[lo+j]).1:=by
 unfold sq;rw[List.take_succ_eq_append_getElem (by simp;omega),List.foldl_append];simp
theorem xp (cs:List (Int×Int)) (k l:Nat) (sp:Int):sq cs (k-l) (k+1-(k-l)) sp=cU cs k l sp:=by
 unfold sq cU;rw[List.drop_take]
def fwd (cs:List (Int×Int)) (start l:Nat) (sp ac:Int):Nat->Int
 |0=>0
 |j+1=>min (min (cU cs (start+j) l sp) (cU cs (start+j+1) l sp)*min (cU cs (start+j) l sp) (cU cs (start+j+1) l sp)) (fwd cs start l sp ac j+ng (cs.getD (start+j) (0,0)).2 ac)
def bwd (cs:List (Int×Int)) (start l:Nat) (sp ac br:Int):Nat->Int
 |0=>0
 |d+1=>min (fwd cs start l sp ac (cs.length-start-(d+1))) (bwd cs start l sp ac br d+ma (cs.getD (cs.length-(d+1)) (0,0)).2 br)
def lG (cs:List (Int×Int)) (start l:Nat) (sp ac br:Int) (j:Nat):Int:=if j=0 then 0 else bwd cs start l sp ac br (cs.length-start-j)
theorem sZ (L:List (Int×Int)) (sp lo hi:Int) (h1:lo<=sp) (h2:sp<=hi) (h: ∀ c∈L,lo<=c.1):lo<=L.foldl (fun m c=>min m c.1) sp/\L.foldl (fun m c=>min m c.1) sp<=sp:=by
 induction L generalizing sp with
 |nil=>exact ⟨h1,Int.le_refl _⟩
 |cons c L ih=>
  have hc:=h c (List.mem_cons_self ..);have:=ih (min sp c.1) (by omega) (by omega) (fun d hd=>h d (List.mem_cons_of_mem _ hd));simp only[List.foldl_cons];omega
theorem eH (cs:List (Int×Int)) (k l:Nat) (sp:Int) (h1:1000<=sp) (h:cs.all eG=true):1000<=cU cs k l sp/\cU cs k l sp<=sp:=
 sZ _ sp 1000 sp h1 (Int.le_refl _) (fun c hc=>(cell_of (List.all_eq_true.1 h c (List.mem_of_mem_take (List.mem_of_mem_drop hc)))).1)
theorem qC (x y:Int) (hx:1000<=x) (hx':x<=100000) (hy:1000<=y) (hy':y<=100000):1000000<=min x y*min x y/\min x y*min x y<=10000000000:=by
 have h1:1000<=min x y:=by omega
 have h2:min x y<=100000:=by omega
 have a:=Int.mul_le_mul h1 h1 (by omega) (by omega);have b:=Int.mul_le_mul h2 h2 (by omega) (by omega);omega
theorem re (cs:List (Int×Int)) (start l:Nat) (sp ac:Int) (h1:1000<=sp) (h2:sp<=100000) (h3:100<=ac) (h4:ac<=2000) (h:cs.all eG=true) (j:Nat):
  0<=fwd cs start l sp ac j/\fwd cs start l sp ac j<=10000000000/\(0<j->1000000<=fwd cs start l sp ac j):=by
 induction j with
 |zero=>simp[fwd]
 |succ j ih=>
  have a:=eH cs (start+j) l sp h1 h;have b:=eH cs (start+j+1) l sp h1 h;have c:=qC (cU cs (start+j) l sp) (cU cs (start+j+1) l sp) (by omega) (by omega) (by omega) (by omega);have d:=lW (cs.getD (start+j) (0,0)).2 ac h3 h4;simp only[fwd];omega
theorem Gp (cs:List (Int×Int)) (start l:Nat) (sp ac br:Int) (h1:1000<=sp) (h2:sp<=100000) (h3:100<=ac) (h4:ac<=2000) (h5:100<=br) (h6:br<=2000) (h:cs.all eG=true) (d:Nat):
  0<=bwd cs start l sp ac br d/\bwd cs start l sp ac br d<=10000000000/\(0<d->d<cs.length-start->1000000<=bwd cs start l sp ac br d):=by
 induction d with
 |zero=>simp[bwd]
 |succ d ih=>
  have a:=re cs start l sp ac h1 h2 h3 h4 h (cs.length-start-(d+1));have c:=mb (cs.getD (cs.length-(d+1)) (0,0)).2 br h5 h6;simp only[bwd];refine ⟨by omega,by omega,fun _ hd=> ?_⟩;have:=a.2.2 (by omega);omega
def ju (cs:List (Int×Int)) (start l:Nat) (sp ac br:Int) (j:Nat):Nat:=Pl.dx (lG cs start l sp ac br j).toNat
def wB (cs:List (Int×Int)) (start l:Nat) (sp ac br:Int):Nat->Int
 |0=>0
 |j+1=>wB cs start l sp ac br j+Pl.cdiv 20000000 ((ju cs start l sp ac br j:Int)+ju cs start l sp ac br (j+1))
theorem gL {cs:List (Int×Int)} {start l sp ac br:Int} (h:dy cs start l sp ac br=0):
  ic l sp ac br=true/\cs.length<=4000/\cs.all eG=true/\0<=start/\start+2<=cs.length:=by
 unfold dy at h;by_cases h1:ic l sp ac br=false
 ·rw[if_pos h1] at h;omega
 ·rw[if_neg h1] at h
  by_cases h2:4000<cs.length
  ·rw[if_pos h2] at h;omega
  ·rw[if_neg h2] at h
   by_cases h3:cs.all eG=false
   ·rw[if_pos h3] at h;omega
   ·rw[if_neg h3] at h
    by_cases h4:start<0\/(cs.length:Int)-2<start
    ·rw[if_pos h4] at h;omega
    ·exact ⟨by simpa using h1,by omega,by simpa using h3,by omega,by omega⟩
section
variable {cs:List (Int×Int)} {start l:Nat} {sp ac br:Int} (h1:1000<=sp) (h2:sp<=100000) (h3:100<=ac) (h4:ac<=2000) (h5:100<=br) (h6:br<=2000) (h:cs.all eG=true)
include h1 h2 h3 h4 h5 h6 h
theorem jv (j:Nat):0<=lG cs start l sp ac br j/\lG cs start l sp ac br j<=10000000000/\(0<j->j<cs.length-start->1000000<=lG cs start l sp ac br j):=by
 unfold lG;by_cases hj:j=0
 ·rw[if_pos hj];omega
 ·rw[if_neg hj]
  have:=Gp cs start l sp ac br h1 h2 h3 h4 h5 h6 h (cs.length-start-j);exact ⟨this.1,this.2.1,fun _ hlt=>this.2.2 (by omega) (by omega)⟩
theorem xY (j:Nat):ju cs start l sp ac br j<=100000/\(0<j->j<cs.length-start->1000<=ju cs start l sp ac br j):=by
 have h0:=jv (start:=start) (l:=l) h1 h2 h3 h4 h5 h6 h j;unfold ju;constructor
 ·have:=Pl.uX (show (lG cs start l sp ac br j).toNat<=10000000000 by omega)
  have e:=Pl.je 10000000000 100000 (by omega) (by omega);omega
 ·intro hj hlt
  have:=Pl.uX (show 1000000<=(lG cs start l sp ac br j).toNat by have:=h0.2.2 hj hlt;omega);have e:=Pl.je 1000000 1000 (by omega) (by omega);omega
theorem zT (hst:start+2<=cs.length) (j:Nat) (hj:j<cs.length-start):1000<=ju cs start l sp ac br j+ju cs start l sp ac br (j+1)/\ju cs start l sp ac br j+ju cs start l sp ac br (j+1)<=200000:=by
 have a:=xY (start:=start) (l:=l) h1 h2 h3 h4 h5 h6 h j;have b:=xY (start:=start) (l:=l) h1 h2 h3 h4 h5 h6 h (j+1);refine ⟨?_,by omega⟩;by_cases h0:0<j
 ·have:=a.2 h0 hj;omega
 ·have:=b.2 (by omega) (by omega);omega
theorem jT (hst:start+2<=cs.length) (j:Nat) (hj:j<cs.length-start):100<=Pl.cdiv 20000000 ((ju cs start l sp ac br j:Int)+ju cs start l sp ac br (j+1))/\Pl.cdiv 20000000 ((ju cs start l sp ac br j:Int)+ju cs start l sp ac br (j+1))<=20000:=by
 have a:=zT (start:=start) (l:=l) h1 h2 h3 h4 h5 h6 h hst j hj;obtain ⟨b,c⟩:=Pl.lS 20000000 ((ju cs start l sp ac br j:Int)+ju cs start l sp ac br (j+1)) (by omega);generalize Pl.cdiv 20000000 ((ju cs start l sp ac br j:Int)+ju cs start l sp ac br (j+1))=q at*
 generalize hs:(ju cs start l sp ac br j:Int)+ju cs start l sp ac br (j+1)=s at*;have hs1:1000<=s:=by omega
 have hs2:s<=200000:=by omega
 constructor
 ·rcases Int.lt_or_le q 100 with hq|hq
  ·rcases Int.lt_or_le q 0 with h0|h0
   ·have:=Int.mul_neg_of_neg_of_pos h0 (show 0<s by omega);omega
   ·have:=Int.mul_le_mul (show q<=99 by omega) hs2 (by omega) (by omega);omega
  ·exact hq
 ·rcases Int.lt_or_le 20000 q with hq|hq
  ·have:20001*s<=q*s:=Int.mul_le_mul_of_nonneg_right (by omega) (by omega)
   omega
  ·exact hq
theorem rP (hst:start+2<=cs.length) (j:Nat) (hj:j<=cs.length-start):100*(j:Int)<=wB cs start l sp ac br j/\wB cs start l sp ac br j<=20000*(j:Int):=by
 induction j with
 |zero=>simp[wB]
 |succ j ih=>
  have a:=ih (by omega);have b:=jT (start:=start) (l:=l) h1 h2 h3 h4 h5 h6 h hst j (by omega);simp only[wB];omega
end
section
variable {cs:List (Int×Int)} {start l:Nat} {sp ac br:Int} (h1:1000<=sp) (h2:sp<=100000) (h3:100<=ac) (h4:ac<=2000) (h5:100<=br) (h6:br<=2000) (h:cs.all eG=true)
theorem Ch:lG cs start l sp ac br 0=0:=by simp[lG]
theorem FO (hm:0<cs.length-start):lG cs start l sp ac br (cs.length-start)=0:=by
 unfold lG;rw[if_neg (by omega),Nat.sub_self];rfl
theorem FP (j:Nat) (hj:0<j) (hj2:j<cs.length-start):lG cs start l sp ac br j=min (fwd cs start l sp ac j) (lG cs start l sp ac br (j+1)+ma (cs.getD (start+j) (0,0)).2 br):=by
 unfold lG;rw[if_neg (by omega),if_neg (by omega),show cs.length-start-j=(cs.length-start-(j+1))+1 by omega];simp only[bwd];rw[show cs.length-start-(cs.length-start-(j+1)+1)=j by omega,show cs.length-(cs.length-start-(j+1)+1)=start+j by omega]
include h1 h2 h3 h4 h in
include h1 h2 h3 h4 h5 h6 h in
include h1 h2 h3 h4 h5 h6 h in
include h1 h2 h3 h4 h5 h6 h in
end
def Qb (cs:List (Int×Int)) (start l:Nat) (sp:Int) (j:Nat):Int:=
 min (cU cs (start+j-1) l sp) (cU cs (start+j) l sp)*min (cU cs (start+j-1) l sp) (cU cs (start+j) l sp)
def nj (cs:List (Int×Int)) (start l:Nat) (sp:Int) (k j:Nat):Int:=if 0<j/\j<k then Qb cs start l sp j else 0
def v9 (cs:List (Int×Int)) (start l:Nat) (sp ac:Int) (j:Nat):Int:=if j<cs.length-start then fwd cs start l sp ac j else 0
def PG (g ac:Int):Int:=if 0<g then max 50 (ac-10*g) else ac
def Kg (g br:Int):Int:=if g<0 then max 50 (br+10*g) else br
theorem xe (g ac:Int):ng g ac=20000*PG g ac:=rfl
theorem xq (g br:Int):ma g br=20000*Kg g br:=rfl
section
variable {cs:List (Int×Int)} {start l:Nat} {sp ac br:Int} (h1:1000<=sp) (h2:sp<=100000) (h3:100<=ac) (h4:ac<=2000) (h5:100<=br) (h6:br<=2000) (h:cs.all eG=true)
include h1 h2 h in
theorem GX (j:Nat):1000000<=Qb cs start l sp j/\Qb cs start l sp j<=10000000000:=by
 have a:=eH cs (start+j-1) l sp h1 h;have b:=eH cs (start+j) l sp h1 h;exact qC _ _ a.1 (by omega) b.1 (by omega)
include h1 h2 h in
theorem GN (k j:Nat):0<=nj cs start l sp k j/\nj cs start l sp k j<=10000000000:=by
 have:=GX (start:=start) (l:=l) h1 h2 h j;unfold nj;split<;>omega
include h1 h2 h3 h4 h in
theorem rb (j:Nat):0<=v9 cs start l sp ac j/\v9 cs start l sp ac j<=10000000000:=by
 have:=re cs start l sp ac h1 h2 h3 h4 h j;unfold v9;split<;>omega
include h1 h2 h3 h4 h in
theorem Jv (k:Nat) (hk:k<cs.length-start):min (nj cs start l sp (cs.length-start) (k+1)) (v9 cs start l sp ac k+ng (cs.getD (start+k) (0,0)).2 ac)=v9 cs start l sp ac (k+1):=by
 have hf:=(rb (start:=start) (l:=l) h1 h2 h3 h4 h k).1;have hg:=(lW (cs.getD (start+k) (0,0)).2 ac h3 h4).1;by_cases e:k+1<cs.length-start
 ·have e1:v9 cs start l sp ac (k+1)=fwd cs start l sp ac (k+1):=if_pos e
  have e2:v9 cs start l sp ac k=fwd cs start l sp ac k:=if_pos hk;have e3:nj cs start l sp (cs.length-start) (k+1)=Qb cs start l sp (k+1):=if_pos ⟨by omega,e⟩;rw[e1,e2,e3];simp only[fwd,Qb];rw[show start+(k+1)-1=start+k by omega,show start+(k+1)=start+k+1 by omega]
 ·have e1:v9 cs start l sp ac (k+1)=0:=if_neg e
  have e3:nj cs start l sp (cs.length-start) (k+1)=0:=if_neg (by omega);rw[e1,e3];omega
include h1 h2 h3 h4 h5 h6 h in
theorem KP (k:Nat) (hk:k<cs.length-start):min (v9 cs start l sp ac k) (lG cs start l sp ac br (k+1)+ma (cs.getD (start+k) (0,0)).2 br)=lG cs start l sp ac br k:=by
 have hs:=(jv (start:=start) (l:=l) h1 h2 h3 h4 h5 h6 h (k+1)).1;have hg:=(mb (cs.getD (start+k) (0,0)).2 br h5 h6).1;have e2:v9 cs start l sp ac k=fwd cs start l sp ac k:=if_pos hk;by_cases h0:k=0
 ·subst h0
  have e3:fwd cs start l sp ac 0=0:=rfl;rw[Ch,e2,e3];omega
 ·rw[FP k (by omega) hk,e2]
end
end Go.Proofs.YtjkeeocnekggfaaGreat
namespace Go.Proofs.YtjkeeocnekggfaaGreat.Av
abbrev pj (nm:ByteArray) (l sp ac br:Int):SV:= .agg [xS nm,xI l,xI sp,xI ac,xI br]
abbrev Lh (nm:ByteArray) (l sp ac br:Int):Option SB:=some (.cells [xS nm,xI l,xI sp,xI ac,xI br])
abbrev RY (c:Int×Int):SV:= .agg [xI c.1,xI c.2]
theorem OJ (l sp ac br:Int):ic l sp ac br=(decide (1<=l)&&decide (l<=40)&&decide (1000<=sp)&&decide (sp<=100000)&&decide (100<=ac)&&decide (ac<=2000)&&decide (100<=br)&&decide (br<=2000)):=by
 rw[Bool.eq_iff_iff];simp[ic,and_assoc]
section
variable {cs:List (Int×Int)} {start l sp ac br:Int}
theorem NB (h: ¬ ic l sp ac br=true):dy cs start l sp ac br=1:=if_pos (by simpa using h)
theorem ND (h:ic l sp ac br=true) (h2:4000<cs.length):dy cs start l sp ac br=7:=by unfold dy;rw[if_neg (by rw[h];decide),if_pos h2]
theorem NC (h:ic l sp ac br=true) (h2: ¬ 4000<cs.length) (h3:cs.all eG=false):dy cs start l sp ac br=4:=by unfold dy;rw[if_neg (by rw[h];decide),if_neg h2,if_pos h3]
theorem IZ (h:ic l sp ac br=true) (h2: ¬ 4000<cs.length) (h3:cs.all eG=true) (h4:start<0\/(cs.length:Int)-2<start):dy cs start l sp ac br=4:=by unfold dy;rw[if_neg (by rw[h];decide),if_neg h2,if_neg (by rw[h3];decide),if_pos h4]
theorem IY (h:ic l sp ac br=true) (h2: ¬ 4000<cs.length) (h3:cs.all eG=true) (h4: ¬ (start<0\/(cs.length:Int)-2<start)):dy cs start l sp ac br=0:=by unfold dy;rw[if_neg (by rw[h];decide),if_neg h2,if_neg (by rw[h3];decide),if_neg h4]
theorem AN {p:Int×Int->Bool} {i:Nat} (hi:i<cs.length) (h:p (cs.getD i (0,0))=false):cs.all p=false:=by
 rw[List.getD_eq_getElem?_getD,List.getElem?_eq_getElem hi] at h;rw[Bool.eq_false_iff];intro ha;have:=List.all_eq_true.1 ha _ (List.getElem_mem hi);rw[show (some cs[i]).getD (0,0)=cs[i] from rfl,this] at h;cases h
theorem nU {p:Int×Int->Bool} (h: ∀ j,j<cs.length->p (cs.getD j (0,0))=true):cs.all p=true:=by
 rw[List.all_eq_true];intro x hx;obtain ⟨i,hi,rfl⟩:=List.mem_iff_getElem.1 hx;have:=h i hi
 rwa [List.getD_eq_getElem?_getD,List.getElem?_eq_getElem hi] at this
end
theorem N6 {q:Nat->Prop} {i:Nat} (h: ∀ j,j<i->q j) (hi:q i): ∀ j,j<i+1->q j:=fun j hj=>by
 rcases Nat.lt_succ_iff_lt_or_eq.1 hj with h1|h1
 ·exact h j h1
 ·exact h1▸hi
theorem Dm {α β:Type} {f:β->α->β} {b:β} {l:List α} {i:Nat} {d:α} (h:i<l.length):(l.take (i+1)).foldl f b=f ((l.take i).foldl f b) (l.getD i d):=by
 rw[List.take_succ_eq_append_getElem h,List.foldl_append,List.getD_eq_getElem?_getD,List.getElem?_eq_getElem h];rfl
theorem C7 (nm:ByteArray) (l sp ac br:Int):cd Tryz.prog 144 [pj nm l sp ac br] [] (vB (ic l sp ac br)) []:=by
 rw[OJ];refine FQ Tryz.func144 ?_;simp only[cu,Nat.zero_add,Nat.reduceAdd]
 repeat' (first|with_reducible (first|refine ab ?_ ?_|exact True.intro|exact bu.nil _|assumption)|refine RQ ?_|(intro (hgq:(_:Bool)=true);(try simp only[bq] at hgq))|((with_reducible apply cH);simp only[bq])|(simp only[hgq,bq];done))
 repeat' (first|with_reducible (first|refine KQ ?_|exact True.intro)|refine mB.c ?_)
theorem AO (cs:List (Int×Int)) (start:Int) (nm:ByteArray) (l sp ac br:Int) (hl:cs.length<=4611686018427387904):cd Tryz.prog 240 [.c (eI cs),.c (xI start),pj nm l sp ac br] [] (vI (dy cs start l sp ac br)) []:=by
 have hC:=C7 nm l sp ac br;refine FQ Tryz.func240 ?_;simp only[cu,Nat.zero_add,Nat.reduceAdd]
 repeat' (first|with_reducible (first|refine ab ?_ ?_|exact True.intro|exact bu.nil _|refine DQ ?_|fail)|((with_reducible apply aC);refine an (hC) rfl ?_)|((with_reducible apply bH);intro hbq;(try simp only[bq] at hbq);(try (exfalso;omega)))|refine RQ ?_|fail)
 ·rw[NB (by simpa using hbq)];rfl
 ·rename_i a1
  rw[ND (by simpa using a1) (by omega)];rfl
 rename_i a1;clear hC;have b1:ic l sp ac br=true:=by simpa using a1
 have b2: ¬ 4000<cs.length:=by omega
 refine aH (fun i:Nat=>SS [sC 0 (eI cs),sI 1 start,sC 17 (eI cs),sI 18 cs.length,sI 19 i] []) (fun i=>i<=cs.length/\ ∀ j,j<i->eG (cs.getD j (0,0))=true) (fun i=>cs.length-i) 0 ?_ ⟨by omega,fun j hj=>by omega⟩ ?_
 ·
  refine WQ ?_ ?_<;>repeat' (first|with_reducible (first|refine KQ ?_|refine ab ?_ ?_|exact True.intro)|refine ax rfl ?_ ?_|exact aE.ah|exact aE.ao|exact aE.al|refine aN.cells ?_ ?_|refine aN.bF ?_ ?_|refine cg.cons ?_ ?_|exact (rfl:known _=_)|exact (rfl:aF _=true)|with_reducible rfl|omega)
 intro i hi;obtain ⟨hi,hok⟩:=hi
 repeat' (first|with_reducible (first|exact VQ|refine ab ?_ ?_|exact True.intro|exact bu.nil _|refine DQ ?_|assumption)|((with_reducible apply bH);intro hbq;(try simp only[bq] at hbq);(try (exfalso;omega)))|refine RQ ?_|(intro (hgq:(_:Bool)=true);(try simp only[bq] at hgq))|(intro (hgq:(_:Bool)=false);(try simp only[bq] at hgq))|((with_reducible apply cH);simp only[bq])|(simp only[hgq,bq];done)|omega)
 ·have hb:eG (cs.getD (i:Int).toNat (0,0))=false:=by unfold eG;rw[decide_eq_false_iff_not];omega
  rw[NC b1 b2 (AN (i:=i) (by omega) hb)];rfl
 ·have hb:eG (cs.getD (i:Int).toNat (0,0))=true:=by unfold eG;rw[decide_eq_true_eq];omega
  refine az (i+1) ?_ (⟨by omega,N6 hok hb⟩) (by (try dsimp only);omega);refine WQ ?_ ?_<;>repeat' (first|with_reducible (first|refine KQ ?_|refine ab ?_ ?_|exact True.intro)|refine ax rfl ?_ ?_|exact aE.ah|exact aE.ao|exact aE.al|refine aN.cells ?_ ?_|refine aN.bF ?_ ?_|refine cg.cons ?_ ?_|exact (rfl:known _=_)|exact (rfl:aF _=true)|with_reducible rfl|omega)
 ·have hie:i=cs.length:=by omega
  subst hie;rw[IZ b1 b2 (nU hok) (by omega)];rfl
 ·have hie:i=cs.length:=by omega
  subst hie;rw[IY b1 b2 (nU hok) (by omega)];rfl
theorem Bo (cs:List (Int×Int)) (k:Nat) (nm:ByteArray) (l sp ac br:Int) (hk:k<cs.length) (hl:cs.length<=4000) (h0:0<=l) (h1:l<=40):cd Tryz.prog 245 [.c (eI cs),.c (xI k),pj nm l sp ac br] [] (vI (cU cs k l.toNat sp)) []:=by
 refine FQ Tryz.func245 ?_;simp only[cu,Nat.zero_add,Nat.reduceAdd]
 repeat' (first|with_reducible (first|refine ab ?_ ?_|exact True.intro)|refine RQ ?_|(intro _;exact rfl)|omega)
 generalize hxs:(cs.drop (max 0 ((k:Int)-l)).toNat).take ((k:Int)+1-max 0 ((k:Int)-l)).toNat=xs;have hxl:xs.length<=4000:=by rw[← hxs,List.length_take,List.length_drop];omega
 have hL:cU cs k l.toNat sp=xs.foldl (fun m c=>min m c.1) sp:=by
  rw[← xp,← hxs,show (max 0 ((k:Int)-l)).toNat=k-l.toNat by omega,show ((k:Int)+1-max 0 ((k:Int)-l)).toNat=k+1-(k-l.toNat) by omega];rfl
 rw[hL];clear hL hxs;refine aH (fun i:Nat=>SS [sI 7 ((xs.take i).foldl (fun m c=>min m c.1) sp),sC 20 (eI xs),sI 21 xs.length,sI 22 i] []) (fun i=>i<=xs.length) (fun i=>xs.length-i) 0 ?_ (by omega) ?_
 ·
  refine WQ ?_ ?_<;>repeat' (first|with_reducible (first|refine KQ ?_|refine ab ?_ ?_|exact True.intro)|refine ax rfl ?_ ?_|exact aE.ah|exact aE.ao|exact aE.al|refine aN.cells ?_ ?_|refine aN.bF ?_ ?_|refine cg.cons ?_ ?_|exact (rfl:known _=_)|exact (rfl:aF _=true)|with_reducible rfl|omega)
  all_goals rfl
 intro i hi
 repeat' (first|with_reducible (first|exact VQ|refine ab ?_ ?_|exact True.intro|exact bu.nil _|refine DQ ?_|assumption)|((with_reducible apply bH);intro hbq;(try simp only[bq] at hbq);(try (exfalso;omega)))|refine RQ ?_|omega)
 ·
  refine az (i+1) ?_ ((by omega)) (by (try dsimp only);omega);refine WQ ?_ ?_<;>repeat' (first|with_reducible (first|refine KQ ?_|refine ab ?_ ?_|exact True.intro)|refine ax rfl ?_ ?_|exact aE.ah|exact aE.ao|exact aE.al|refine aN.cells ?_ ?_|refine aN.bF ?_ ?_|refine cg.cons ?_ ?_|exact (rfl:known _=_)|exact (rfl:aF _=true)|with_reducible rfl|omega)
  all_goals (rw[Dm (d:=(0,0)) (by omega)];rfl)
 ·have hie:i=xs.length:=by omega
  subst hie;rw[List.take_length];rfl
theorem Mi (c:Int×Int) (nm:ByteArray) (l sp ac br:Int) (h0: -40<=c.2/\c.2<=40) (h5:100<=ac) (h6:ac<=2000):cd Tryz.prog 246 [RY c,pj nm l sp ac br] [] (vI (ng c.2 ac)) []:=by
 unfold ng;refine FQ Tryz.func246 ?_;simp only[cu,Nat.zero_add,Nat.reduceAdd]
 repeat' (first|with_reducible (first|refine ab ?_ ?_|exact True.intro|exact bu.nil _)|((with_reducible apply bH);intro hbq;(try simp only[bq] at hbq);(try (exfalso;omega)))|refine RQ ?_|omega)
 ·rw[if_pos (by omega)];rfl
 ·rw[if_neg (by omega)];rfl
theorem Mu (c:Int×Int) (nm:ByteArray) (l sp ac br:Int) (h0: -40<=c.2/\c.2<=40) (h5:100<=br) (h6:br<=2000):cd Tryz.prog 247 [RY c,pj nm l sp ac br] [] (vI (ma c.2 br)) []:=by
 unfold ma;refine FQ Tryz.func247 ?_;simp only[cu,Nat.zero_add,Nat.reduceAdd]
 repeat' (first|with_reducible (first|refine ab ?_ ?_|exact True.intro|exact bu.nil _)|((with_reducible apply bH);intro hbq;(try simp only[bq] at hbq);(try (exfalso;omega)))|refine RQ ?_|omega)
 ·rw[if_pos (by omega)];rfl
 ·rw[if_neg (by omega)];rfl
abbrev sW (l:List Int):Option SB:=some (.bF 1 ez Cu GZ 0 l)
def row (n:Nat) (f:Nat->Int):List Int:=(List.range n).map f
theorem aJ (n:Nat) (f:Nat->Int):(row n f).length=n:=by simp[row]
theorem ct {n:Nat} {f:Nat->Int} {i:Nat} (h:i<n):(row n f).getD i 0=f i:=by simp[row,List.getD_eq_getElem?_getD,h]
theorem gm {n:Nat} {f g:Nat->Int} {i:Nat} {x:Int} (hx:g i=x) (h: ∀ j,j<n->j≠i->g j=f j):(row n f).set i x=row n g:=by
 apply List.ext_getElem
 ·simp[row]
 ·intro j h1 h2
  have hj:j<n:=by simpa[row] using h2
  rw[List.getElem_set];split
  ·rename_i e;subst e;simp[row,hx]
  ·rename_i e;simp only[row,List.getElem_map,List.getElem_range];exact (h j hj (fun e'=>e e'.symm)).symm
theorem ef {n:Nat} {f g:Nat->Int} (h: ∀ j,j<n->f j=g j):row n f=row n g:=by
 unfold row;exact List.map_congr_left fun j hj=>h j (List.mem_range.1 hj)
theorem nC (n:Nat):List.replicate n (0:Int)=row n fun _=>0:=by
 apply List.ext_getElem
 ·simp[row]
 ·intro j h1 h2;simp[row]
theorem Ek (cs:List (Int×Int)) (s:Nat) (nm:ByteArray) (l sp ac br:Int) (h:dy cs s l sp ac br=0):cd Tryz.prog 241 [.c (eI cs),.c (xI s),pj nm l sp ac br] [] (.c (.c (.arr 1 0 (cs.length-s+1) (cs.length-s+1)))) [Lh nm l sp ac br,sW (row (cs.length-s+1) (lG cs s l.toNat sp ac br))]:=by
 obtain ⟨hc,hn,hall,h0,h2⟩:=gL h;obtain ⟨l1,l2,l3,l4,l5,l6,l7,l8⟩:=iu hc;have hL:=Bo cs s nm l sp ac br (by omega) hn (by omega) l2;refine FQ Tryz.func241 ?_;simp only[cu,Nat.zero_add,Nat.reduceAdd]
 repeat' (first|with_reducible (first|refine ab ?_ ?_|exact True.intro|refine DQ ?_|fail)|((with_reducible apply aC);refine an (hL) rfl ?_)|refine RQ ?_|omega|(dsimp only;omega))
 clear hL;have eN:((cs.length:Int)-s+1).toNat=cs.length-s+1:=by omega
 refine aH (fun i:Nat=>SS [sC 0 (eI cs),sI 1 s,sC 5 (pB 0),sI 7 cs.length,sC 8 (.c (.arr 1 0 (cs.length-s+1) (cs.length-s+1))),sI 9 (cU cs (s+i) l.toNat sp),sI 10 (s+i+1:Nat)] [Lh nm l sp ac br,sW (row (cs.length-s+1) fun j=>if j<=i then fwd cs s l.toNat sp ac j else 0)]) (fun i=>s+i+1<=cs.length) (fun i=>cs.length-i) 0 ?_ (by omega) ?_
 ·
  refine WQ ?_ ?_<;>repeat' (first|with_reducible (first|refine KQ ?_|refine ab ?_ ?_|exact True.intro)|refine ax rfl ?_ ?_|exact aE.ah|exact aE.ao|exact aE.al|refine aN.cells ?_ ?_|refine aN.bF ?_ ?_|refine cg.cons ?_ ?_|exact (rfl:known _=_)|exact (rfl:aF _=true)|with_reducible rfl|omega)
  ·rw[eN,nC]
   refine ef fun j hj=> ?_
   by_cases hj0:j<=0
   ·rw[if_pos hj0,show j=0 by omega];rfl
   ·rw[if_neg hj0]
  ·rfl
 intro i hi;by_cases hlt:s+i+1<cs.length
 ·have hL:=Bo cs (s+i+1) nm l sp ac br hlt hn (by omega) l2
  have hce:=cell_of (List.all_eq_true.1 hall _ (List.getElem_mem (show s+i<cs.length by omega)));have eg:cs.getD (((s+i+1:Nat):Int)-1).toNat (0,0)=cs[s+i]:=by
   rw[show (((s+i+1:Nat):Int)-1).toNat=s+i by omega];exact lX _ _ _
  rw[← eg] at hce;have hG:=Mi (cs.getD (((s+i+1:Nat):Int)-1).toNat (0,0)) nm l sp ac br ⟨hce.2.2.1,hce.2.2.2⟩ l5 l6;have hgr:=lW (cs.getD (((s+i+1:Nat):Int)-1).toNat (0,0)).2 ac l5 l6;have a1:=eH cs (s+i) l.toNat sp l3 hall;have a2:=eH cs (s+i+1) l.toNat sp l3 hall;have a3:=qC (cU cs (s+i) l.toNat sp) (cU cs (s+i+1) l.toNat sp) a1.1 (by omega) a2.1 (by omega);have a4:=re cs s l.toNat sp ac l3 l4 l5 l6 hall i;have a5:(row (cs.length-s+1) fun j=>if j<=i then fwd cs s l.toNat sp ac j else 0).getD (((s+i+1:Nat):Int)-1-s).toNat 0=fwd cs s l.toNat sp ac i:=by
   rw[show (((s+i+1:Nat):Int)-1-s).toNat=i by omega,ct (by omega),if_pos (Nat.le_refl _)]
  rw[← a5] at a4;have a6:=aJ (cs.length-s+1) fun j=>if j<=i then fwd cs s l.toNat sp ac j else 0
  repeat' (first|with_reducible (first|exact BQ|exact VQ|refine ab ?_ ?_|exact True.intro|refine DQ ?_|fail)|((with_reducible apply aC);first|refine an (hL) rfl ?_|refine an (hG) rfl ?_)|((with_reducible apply bH);intro hbq;(try simp only[bq] at hbq);(try (exfalso;omega)))|refine RQ ?_|omega)
  ·rfl
  ·
   refine az (i+1) ?_ ((by omega)) (by (try dsimp only);omega);refine WQ ?_ ?_<;>repeat' (first|with_reducible (first|refine KQ ?_|refine ab ?_ ?_|exact True.intro)|refine ax rfl ?_ ?_|exact aE.ah|exact aE.ao|exact aE.al|refine aN.cells ?_ ?_|refine aN.bF ?_ ?_|refine cg.cons ?_ ?_|exact (rfl:known _=_)|exact (rfl:aF _=true)|with_reducible rfl|omega)
   ·rw[a5,show (((s+i+1:Nat):Int)-s).toNat=i+1 by omega,show (((s+i+1:Nat):Int)-1).toNat=s+i by omega]
    refine gm (i:=i+1) ?_ fun j hj hne=> ?_
    ·rw[if_pos (Nat.le_refl _)];rfl
    ·by_cases hji:j<=i
     ·rw[if_pos hji,if_pos (by omega)]
     ·rw[if_neg hji,if_neg (by omega)]
   ·rfl
 ·
  repeat' (first|with_reducible (first|refine ab ?_ ?_|exact True.intro|refine DQ ?_|fail)|((with_reducible apply bH);intro hbq;(try simp only[bq] at hbq);(try (exfalso;omega)))|refine RQ ?_|omega)
  refine aH (fun d:Nat=>SS [sC 0 (eI cs),sI 1 s,sC 5 (pB 0),sI 7 cs.length,sC 8 (.c (.arr 1 0 (cs.length-s+1) (cs.length-s+1))),sI 13 ((cs.length:Int)-1-d)] [Lh nm l sp ac br,sW (row (cs.length-s+1) fun j=>if j+d<cs.length-s then fwd cs s l.toNat sp ac j else lG cs s l.toNat sp ac br j)]) (fun d=>s+d+1<=cs.length) (fun d=>cs.length-d) 0 ?_ (by omega) ?_
  ·
   refine WQ ?_ ?_<;>repeat' (first|with_reducible (first|refine KQ ?_|refine ab ?_ ?_|exact True.intro)|refine ax rfl ?_ ?_|exact aE.ah|exact aE.ao|exact aE.al|refine aN.cells ?_ ?_|refine aN.bF ?_ ?_|refine cg.cons ?_ ?_|exact (rfl:known _=_)|exact (rfl:aF _=true)|with_reducible rfl|omega)
   all_goals (
    refine ef fun j hj=> ?_
    by_cases hji:j<=i
    ·rw[if_pos hji,if_pos (by omega)]
    ·rw[if_neg hji,if_neg (by omega),show j=cs.length-s by omega,FO (by omega)])
  intro d hd;by_cases hdl:s+d+1<cs.length
  ·generalize he:cs.length-1-d-s=e
   have e1:((cs.length:Int)-1-d).toNat=s+e:=by omega
   have hce:=cell_of (List.all_eq_true.1 hall _ (List.getElem_mem (show s+e<cs.length by omega)));have eg:cs.getD ((cs.length:Int)-1-d).toNat (0,0)=cs[s+e]:=by rw[e1];exact lX _ _ _
   rw[← eg] at hce;have hG:=Mu (cs.getD ((cs.length:Int)-1-d).toNat (0,0)) nm l sp ac br ⟨hce.2.2.1,hce.2.2.2⟩ l7 l8;have hgr:=mb (cs.getD ((cs.length:Int)-1-d).toNat (0,0)).2 br l7 l8;have a6:=aJ (cs.length-s+1) fun j=>if j+d<cs.length-s then fwd cs s l.toNat sp ac j else lG cs s l.toNat sp ac br j
   have a4:=jv (start:=s) (l:=l.toNat) l3 l4 l5 l6 l7 l8 hall (e+1);have a5:(row (cs.length-s+1) fun j=>if j+d<cs.length-s then fwd cs s l.toNat sp ac j else lG cs s l.toNat sp ac br j).getD ((cs.length:Int)-1-d+1-s).toNat 0=lG cs s l.toNat sp ac br (e+1):=by
    rw[show ((cs.length:Int)-1-d+1-s).toNat=e+1 by omega,ct (by omega),if_neg (by omega)]
   have a7:(row (cs.length-s+1) fun j=>if j+d<cs.length-s then fwd cs s l.toNat sp ac j else lG cs s l.toNat sp ac br j).getD ((cs.length:Int)-1-d-s).toNat 0=fwd cs s l.toNat sp ac e:=by
    rw[show ((cs.length:Int)-1-d-s).toNat=e by omega,ct (by omega),if_pos (by omega)]
   rw[← a5] at a4
   repeat' (first|with_reducible (first|exact BQ|exact VQ|refine ab ?_ ?_|exact True.intro|refine DQ ?_|fail)|((with_reducible apply aC);refine an (hG) rfl ?_)|((with_reducible apply bH);intro hbq;(try simp only[bq] at hbq);(try (exfalso;omega)))|refine RQ ?_|omega)
   ·rfl
   ·
    refine az (d+1) ?_ ((by omega)) (by (try dsimp only);omega);refine WQ ?_ ?_<;>repeat' (first|with_reducible (first|refine KQ ?_|refine ab ?_ ?_|exact True.intro)|refine ax rfl ?_ ?_|exact aE.ah|exact aE.ao|exact aE.al|refine aN.cells ?_ ?_|refine aN.bF ?_ ?_|refine cg.cons ?_ ?_|exact (rfl:known _=_)|exact (rfl:aF _=true)|with_reducible rfl|omega)
    all_goals (
     rw[a5,a7,show ((cs.length:Int)-1-d-s).toNat=e by omega,e1];refine gm (i:=e) ?_ fun j hj hne=> ?_
     ·rw[if_neg (by omega)]
      exact FP e (by omega) (by omega)
     ·by_cases hji:j+d<cs.length-s
      ·rw[if_pos hji,if_pos (by omega)]
      ·rw[if_neg hji,if_neg (by omega)])
  ·
   have hr:row (cs.length-s+1) (fun j=>if j+d<cs.length-s then fwd cs s l.toNat sp ac j else lG cs s l.toNat sp ac br j)=row (cs.length-s+1) (lG cs s l.toNat sp ac br):=ef fun j hj=>by
    by_cases hj0:j+d<cs.length-s
    ·rw[if_pos hj0,show j=0 by omega,Ch];rfl
    ·rw[if_neg hj0]
   repeat' (first|with_reducible (first|refine ab ?_ ?_|exact True.intro|refine DQ ?_|fail)|((with_reducible apply bH);intro hbq;(try simp only[bq] at hbq);(try (exfalso;omega)))|refine RQ ?_|fail)
   ·rfl
   ·rw[hr]
    repeat' (first|with_reducible (first|refine KQ ?_|refine ab ?_ ?_|exact True.intro)|rfl)
end Go.Proofs.YtjkeeocnekggfaaGreat.Av
namespace Go.Proofs.YtjkeeocnekggfaaGreat
open Go.RowKit
theorem BN (a b:Int) (w:World) (ha: -9223372036854775808<=a) (ha':a<=9223372036854775807) (hb:1<=b) (hb':b<=9223372036854775807):
  Calls Tryz.prog 118 #[.int .i64 a,.int .i64 b] w fun e w'=>e= .returned (.int .i64 (Pl.cdiv a b))/\w=w':=by
 by_cases h:0<=a
 ·have h1:=Int.emod_nonneg a (show b≠0 by omega)
  have h2:=Pl.oC a b h hb;by_cases hr:0<a%b
  ·have h3:a / b<a:=by
    have:=Int.ediv_mul_add_emod a b;have:=Int.mul_le_mul_of_nonneg_left hb h2.1;omega
   have H:=Lib.hid (Pl.AI a b h hb hr)
   go_enter Tryz.func118,Tryz.ntmps118
   go_wp2
   go_ret
   exact ⟨cP H.out.symm,rfl⟩
  ·have H:=Lib.hid (Pl.wV a b hb (by omega))
   go_enter Tryz.func118,Tryz.ntmps118
   go_wp2
   go_ret
   exact ⟨cP H.out.symm,rfl⟩
 ·obtain ⟨h1,h2,h3,h4⟩:=Pl.sM a b (by omega) hb
  obtain ⟨g1,g2,g3,g4⟩:=Pl.sN a b (by omega) hb;have H:=Lib.hid (Pl.AH a b (by omega) hb);clear h4 h3 g3 g4
  go_enter Tryz.func118,Tryz.ntmps118
  go_wp2
  go_ret
  exact ⟨cP H.out.symm,rfl⟩
theorem AJ (a b:Int) (w:World) (ha: -9223372036854775808<=a) (ha':a<=9223372036854775807) (hb:1<=b) (hb':b<=9223372036854775807):
  Calls Tryz.prog 230 #[.int .i64 a,.int .i64 b] w fun e w'=>e= .returned (.tuple #[.int .i64 (Pl.cdiv a b),.int .i64 0])/\w=w':=by
 by_cases h:0<=a
 ·have h1:=Int.emod_nonneg a (show b≠0 by omega)
  have h2:=Pl.oC a b h hb;by_cases hr:0<a%b
  ·have h3:a / b<a:=by
    have:=Int.ediv_mul_add_emod a b;have:=Int.mul_le_mul_of_nonneg_left hb h2.1;omega
   have H:=Lib.hid (Pl.AI a b h hb hr)
   go_enter Tryz.func230,Tryz.ntmps230
   go_wp2
   go_ret2
   exact ⟨vG H.out.symm rfl,rfl⟩
  ·have H:=Lib.hid (Pl.wV a b hb (by omega))
   go_enter Tryz.func230,Tryz.ntmps230
   go_wp2
   go_ret2
   exact ⟨vG H.out.symm rfl,rfl⟩
 ·obtain ⟨h1,h2,h3,h4⟩:=Pl.sM a b (by omega) hb
  obtain ⟨g1,g2,g3,g4⟩:=Pl.sN a b (by omega) hb;have H:=Lib.hid (Pl.AH a b (by omega) hb);clear h4 h3 g3 g4
  go_enter Tryz.func230,Tryz.ntmps230
  go_wp2
  go_ret2
  exact ⟨vG H.out.symm rfl,rfl⟩
end Go.Proofs.YtjkeeocnekggfaaGreat
namespace Go.Proofs.YtjkeeocnekggfaaGreat
open Go.RowKit
theorem KS (n:Nat) (w:World) (hn:(n:Int)<=9223372036854775807):
  Calls Tryz.prog 242 #[.int .i64 n] w fun e w'=>e= .returned (.int .i64 (Pl.dx n:Nat))/\w=w':=by
 go_enter Tryz.func242,Tryz.ntmps242
 go_wp2
 go_loop [3,4] (fun u v=> ∃ k p r:Nat,Hid (p=2^k)/\k<=32/\r+p<=4294967296/\Hid (r*r<=n/\n<(r+p)*(r+p))/\u= .int .i64 r/\v= .int .i64 ((p / 2:Nat):Int)) (fun _ v=>(intOf v).toNat)
 case atStart=>exact ⟨32,4294967296,0,Lib.hid rfl,by omega,by omega,Lib.hid (by omega),rfl,rfl⟩
 case round=>
  obtain ⟨k,p,r,Hp,hk,hr,Hn,rfl,rfl⟩:=hrel;cases k with
  |zero=>
   have hp:p=1:=Hp.out;subst hp
   go_wp2
   go_ret
   exact ⟨cP (by rw[Pl.je n r Hn.out.1 Hn.out.2]),rfl⟩
  |succ k=>
   obtain ⟨q,Hq⟩: ∃ q:Nat,Hid (q=2^k):=⟨_,Lib.hid rfl⟩;obtain rfl:p=2*q:=by rw[Hp.out,Hq.out,Nat.pow_succ];omega
   have hq:1<=q:=by rw[Hq.out];exact Nat.one_le_two_pow
   have hle:Hid (r+q<=n / (r+q)↔(r+q)*(r+q)<=n):=Lib.hid (Nat.le_div_iff_mul_le (by omega));have hi1:(n:Int) / ((r:Int)+(q:Int))=((n / (r+q):Nat):Int):=by simp
   have hi2:(n:Int) / ((r:Int)+(q:Int))<=9223372036854775807:=by
    rw[hi1];have:=Nat.div_le_self n (r+q);omega
   rw[show 2*q / 2=q by omega];by_cases hd:r+q<=n / (r+q)
   ·have hi3:(r:Int)+(q:Int)<=(n:Int) / ((r:Int)+(q:Int)):=by rw[hi1];omega
    have Hm:Hid ((r+q)*(r+q)<=n/\n<(r+q+q)*(r+q+q)):=Lib.hid ⟨hle.out.1 hd,by rw[Nat.add_assoc,← Nat.two_mul];exact Hn.out.2⟩;clear hi1 hd
    go_wp2
    go_round
    case rel=>exact ⟨k,q,r+q,Hq,by omega,by omega,Hm,by go_num,by go_num⟩
    case measure=>simp[intOf];omega
   ·have hi3:(n:Int) / ((r:Int)+(q:Int))<(r:Int)+(q:Int):=by rw[hi1];omega
    have hi4:0<=(n:Int) / ((r:Int)+(q:Int)):=by rw[hi1];exact Int.natCast_nonneg _
    have Hm:Hid (r*r<=n/\n<(r+q)*(r+q)):=Lib.hid ⟨Hn.out.1,Nat.lt_of_not_le (fun h=>hd (hle.out.2 h))⟩;clear hi1 hd
    go_wp2
    go_round
    case rel=>exact ⟨k,q,r,Hq,by omega,by omega,Hm,rfl,by go_num⟩
    case measure=>simp[intOf];omega
end Go.Proofs.YtjkeeocnekggfaaGreat
namespace Go.Proofs.YtjkeeocnekggfaaGreat
open Go.RowKit
theorem KR (m:Nat) (h:m<=3037000499):m*m<=9223372030926249001:=Nat.mul_le_mul h h
theorem BS (n:Nat) (w:World) (hn:(n:Int)<=9223372036854775807):
  Calls Tryz.prog 206 #[.int .i64 n] w fun e w'=>e= .returned (.int .i64 (Pl.dx n:Nat))/\w=w':=by
 by_cases h0:n=0
 ·subst h0
  go_enter Tryz.func206,Tryz.ntmps206
  go_wp2
  go_ret
  exact ⟨rfl,rfl⟩
 ·have hd:decide ((n:Int)<=0)=false:=by simp;omega
  go_enter Tryz.func206,Tryz.ntmps206
  go_wp2
  clear hd
  go_loop [3,4] (fun u v=> ∃ lo hi:Nat,lo<=hi/\hi<=3037000499/\Hid (lo*lo<=n/\n<(hi+1)*(hi+1))/\u= .int .i64 lo/\v= .int .i64 hi) (fun u v=>(intOf v).toNat-(intOf u).toNat)
  case atStart=>exact ⟨0,3037000499,by omega,by omega,Lib.hid (by omega),rfl,rfl⟩
  case round=>
   obtain ⟨lo,hi,h1,h2,Hn,rfl,rfl⟩:=hrel;by_cases hlt:lo<hi
   ·obtain ⟨m,Hm⟩: ∃ m,Hid ((lo+hi+1) / 2=m):=⟨_,Lib.hid rfl⟩
    have hm1:lo<m:=by have:=Hm.out;omega
    have hm2:m<=hi:=by have:=Hm.out;omega
    obtain ⟨q,Hq⟩: ∃ q,Hid (m*m=q):=⟨_,Lib.hid rfl⟩;have hq:q<=9223372030926249001:=by rw[← Hq.out];exact KR m (by omega)
    have hqi:(m:Int)*m=(q:Int):=by rw[← Hq.out];simp
    have e1:((lo:Int)+hi+1) / 2=(m:Int):=by have:=Hm.out;omega
    have e2:IntKind.i64.wrap ((m:Int)*m)=(q:Int):=by rw[hqi,IntKind.wrap_i64];omega
    have e3:Int.tdiv ((lo:Int)+hi+1) 2=(m:Int):=by rw[Int.tdiv_eq_ediv_of_nonneg (by omega)];exact e1
    by_cases hle:q<=n
    ·go_wp2
     go_round
     case rel=>exact ⟨m,hi,hm2,h2,Lib.hid ⟨by rw[Hq.out];exact hle,Hn.out.2⟩,rfl,rfl⟩
     case measure=>simp[intOf];omega
    ·have hd:decide ((q:Int)<=(n:Int))=false:=by simp;omega
     go_wp2
     go_round
     case rel=>exact ⟨lo,m-1,by omega,by omega,Lib.hid ⟨Hn.out.1,by rw[show m-1+1=m by omega,Hq.out];omega⟩,rfl,by go_num⟩
     case measure=>simp[intOf];omega
   ·obtain rfl:lo=hi:=by omega
    go_wp2
    go_ret
    exact ⟨cP (by rw[Pl.je n lo Hn.out.1 Hn.out.2]),rfl⟩
end Go.Proofs.YtjkeeocnekggfaaGreat
namespace Go.Proofs.YtjkeeocnekggfaaGreat.Av
open Go.RowKit
theorem FX {vals:Array Value} (h:vals.size=2):vals= #[vals[0],vals[1]]:=by
 apply Array.ext
 ·simp[h]
 ·intro i h1 h2
  match i,h2 with
  |0,_=>rfl
  |1,_=>rfl
theorem DU (a b:Int) (ha: -9223372036854775808<=a/\a<=9223372036854775807) (hb:1<=b/\b<=9223372036854775807):Ok Tryz.prog 118 [i64 a,i64 b] [] (i64 (Pl.cdiv a b)) []:=by
 refine rz _ Tryz.func118 (by kernel_rfl) (by kernel_rfl) rfl rfl fun w κ ρ vals hv hr=>⟨_,ob,?_⟩
 have hv:vals.size=2:=hv;have h0:vals[0]= .int .i64 a:=(eX.1 (hr 0 (by simp) (by omega) (.slot 0))).1;have h1:vals[1]= .int .i64 b:=(eX.1 (hr 1 (by simp) (by omega) (.slot 0))).1;rw[FX hv,h0,h1];exact (BN a b w ha.1 ha.2 hb.1 hb.2).mono fun e w' ⟨h1,h2⟩=>⟨h1,by subst h2;exact Below.refl _ _⟩
theorem sA (a b:Int) (ha: -9223372036854775808<=a/\a<=9223372036854775807) (hb:1<=b/\b<=9223372036854775807):cd Tryz.prog 118 [.c (xI a),.c (xI b)] [] (vI (Pl.cdiv a b)) []:=DU a b ha hb
theorem C5 (a b:Int) (ha: -9223372036854775808<=a/\a<=9223372036854775807) (hb:1<=b/\b<=9223372036854775807):Ok Tryz.prog 230 [i64 a,i64 b] [] (.cC [.c (.f (.v (.int .i64 (Pl.cdiv a b)))),.c (.f (.v (.int .i64 0)))]) []:=by
 refine rz _ Tryz.func230 (by kernel_rfl) (by kernel_rfl) rfl rfl fun w κ ρ vals hv hr=>⟨_,MO ob ob rfl rfl,?_⟩
 have hv:vals.size=2:=hv;have h0:vals[0]= .int .i64 a:=(eX.1 (hr 0 (by simp) (by omega) (.slot 0))).1;have h1:vals[1]= .int .i64 b:=(eX.1 (hr 1 (by simp) (by omega) (.slot 0))).1;rw[FX hv,h0,h1];exact (AJ a b w ha.1 ha.2 hb.1 hb.2).mono fun e w' ⟨h1,h2⟩=>⟨h1,by subst h2;exact Below.refl _ _⟩
theorem rY (a b:Int) (ha: -9223372036854775808<=a/\a<=9223372036854775807) (hb:1<=b/\b<=9223372036854775807):cd Tryz.prog 230 [.c (xI a),.c (xI b)] [] (.cC [.c (xI (Pl.cdiv a b)),.c (xI 0)]) []:=C5 a b ha hb
theorem Nb (a:Int) (ha:0<=a/\a<=9223372036854775807):Ok Tryz.prog 242 [i64 a] [] (i64 (Pl.dx a.toNat:Nat)) []:=by
 refine rz _ Tryz.func242 (by kernel_rfl) (by kernel_rfl) rfl rfl fun w κ ρ vals hv hr=>⟨_,ob,?_⟩
 have hv:vals.size=1:=hv;have h0:vals[0]= .int .i64 a:=(eX.1 (hr 0 (by simp) (by omega) (.slot 0))).1;rw[tD hv,h0];obtain ⟨m,rfl⟩:=Int.eq_ofNat_of_zero_le ha.1;exact (KS m w ha.2).mono fun e w' ⟨h1,h2⟩=>⟨h1,by subst h2;exact Below.refl _ _⟩
theorem KT (a:Int) (ha:0<=a/\a<=9223372036854775807):cd Tryz.prog 242 [.c (xI a)] [] (vI (Pl.dx a.toNat:Nat)) []:=Nb a ha
theorem DV (a:Int) (ha:0<=a/\a<=9223372036854775807):Ok Tryz.prog 206 [i64 a] [] (i64 (Pl.dx a.toNat:Nat)) []:=by
 refine rz _ Tryz.func206 (by kernel_rfl) (by kernel_rfl) rfl rfl fun w κ ρ vals hv hr=>⟨_,ob,?_⟩
 have hv:vals.size=1:=hv;have h0:vals[0]= .int .i64 a:=(eX.1 (hr 0 (by simp) (by omega) (.slot 0))).1;rw[tD hv,h0];obtain ⟨m,rfl⟩:=Int.eq_ofNat_of_zero_le ha.1;exact (BS m w ha.2).mono fun e w' ⟨h1,h2⟩=>⟨h1,by subst h2;exact Below.refl _ _⟩
theorem BT (a:Int) (ha:0<=a/\a<=9223372036854775807):cd Tryz.prog 206 [.c (xI a)] [] (vI (Pl.dx a.toNat:Nat)) []:=DV a ha
end Go.Proofs.YtjkeeocnekggfaaGreat.Av
namespace Go.Proofs.YtjkeeocnekggfaaGreat.Av
def nJ (cs:List (Int×Int)) (s:Int) (l sp ac br:Int):List Int:=if dy cs s l sp ac br=0 then row (cs.length-s.toNat+1) (fun j=>((ju cs s.toNat l.toNat sp ac br j:Nat):Int)) else []
def vT (cs:List (Int×Int)) (s:Int) (l sp ac br:Int):List Int:=if dy cs s l sp ac br=0 then row (cs.length-s.toNat+1) (wB cs s.toNat l.toNat sp ac br) else []
theorem H6 (cs:List (Int×Int)) (start:Int) (nm:ByteArray) (l sp ac br:Int) (hl:cs.length<=4611686018427387904):cd Tryz.prog 229 [.c (eI cs),.c (xI start),pj nm l sp ac br] [] (.cC [.c (fN (nJ cs start l sp ac br)),.c (xI (dy cs start l sp ac br))]) []:=by
 have hC:=AO cs start nm l sp ac br hl;unfold nJ;by_cases h:dy cs start l sp ac br=0
 ·obtain ⟨hc,hn,hall,h0,h2⟩:=gL h
  obtain ⟨l1,l2,l3,l4,l5,l6,l7,l8⟩:=iu hc;obtain ⟨s,rfl⟩:=Int.eq_ofNat_of_zero_le h0;have hS:=Ek cs s nm l sp ac br h;rw[h] at hC⊢;rw[if_pos rfl];simp only[Int.toNat_natCast];refine PQ Tryz.func229 ?_;simp only[cu,Nat.zero_add,Nat.reduceAdd]
  repeat' (first|with_reducible (first|refine ab ?_ ?_|exact True.intro|refine DQ ?_|fail)|((with_reducible apply aC);first|refine an (hC) rfl ?_|refine iq [] (hS) rfl rfl rfl rfl rfl rfl rfl rfl rfl rfl rfl rfl rfl ?_)|((with_reducible apply bH);intro hbq;(try simp only[bq] at hbq);(try (exfalso;omega)))|refine RQ ?_|fail)
  clear hC hS;refine aH (fun i:Nat=>SS [sC 9 (.c (.arr 2 0 (cs.length-s+1) (cs.length-s+1))),sC 23 (.c (.arr 2 0 (cs.length-s+1) (cs.length-s+1))),sI 24 (cs.length-s+1:Nat),sI 25 i] [none,none,sW (row (cs.length-s+1) fun j=>if j<i then ((ju cs s l.toNat sp ac br j:Nat):Int) else lG cs s l.toNat sp ac br j)]) (fun i=>i<=cs.length-s+1) (fun i=>cs.length-s+1-i) 0 ?_ (by omega) ?_
  ·
   refine WQ ?_ ?_<;>repeat' (first|with_reducible (first|refine KQ ?_|refine ab ?_ ?_|exact True.intro)|refine ax rfl ?_ ?_|exact aE.ah|exact aE.ao|exact aE.al|refine aN.cells ?_ ?_|refine aN.bF ?_ ?_|refine cg.cons ?_ ?_|exact (rfl:known _=_)|exact (rfl:aF _=true)|with_reducible rfl|omega)
   all_goals rfl
  intro i hi;have a6:=aJ (cs.length-s+1) fun j=>if j<i then ((ju cs s l.toNat sp ac br j:Nat):Int) else lG cs s l.toNat sp ac br j
  have a4:=jv (start:=s) (l:=l.toNat) l3 l4 l5 l6 l7 l8 hall i;by_cases hil:i<cs.length-s+1
  ·have a5:(row (cs.length-s+1) fun j=>if j<i then ((ju cs s l.toNat sp ac br j:Nat):Int) else lG cs s l.toNat sp ac br j).getD (i:Int).toNat 0=lG cs s l.toNat sp ac br i:=by
    rw[Int.toNat_natCast,ct hil,if_neg (by omega)]
   have hQ:=KT ((row (cs.length-s+1) fun j=>if j<i then ((ju cs s l.toNat sp ac br j:Nat):Int) else lG cs s l.toNat sp ac br j).getD (i:Int).toNat 0) (by rw[a5];omega)
   repeat' (first|with_reducible (first|exact VQ|refine ab ?_ ?_|exact True.intro|refine DQ ?_|assumption)|((with_reducible apply aC);refine an (hQ) rfl ?_)|((with_reducible apply bH);intro hbq;(try simp only[bq] at hbq);(try (exfalso;omega)))|refine RQ ?_|omega)
   ·rfl
   ·
    refine az (i+1) ?_ ((by omega)) (by (try dsimp only);omega);refine WQ ?_ ?_<;>repeat' (first|with_reducible (first|refine KQ ?_|refine ab ?_ ?_|exact True.intro)|refine ax rfl ?_ ?_|exact aE.ah|exact aE.ao|exact aE.al|refine aN.cells ?_ ?_|refine aN.bF ?_ ?_|refine cg.cons ?_ ?_|exact (rfl:known _=_)|exact (rfl:aF _=true)|with_reducible rfl|omega)
    all_goals (
     rw[a5,Int.toNat_natCast];refine gm (i:=i) ?_ fun j hj hne=> ?_
     ·rw[if_pos (by omega)];rfl
     ·by_cases hji:j<i
      ·rw[if_pos hji,if_pos (by omega)]
      ·rw[if_neg hji,if_neg (by omega)])
  ·have hr:row (cs.length-s+1) (fun j=>if j<i then ((ju cs s l.toNat sp ac br j:Nat):Int) else lG cs s l.toNat sp ac br j)=row (cs.length-s+1) fun j=>((ju cs s l.toNat sp ac br j:Nat):Int):=ef fun j hj=>if_pos (by omega)
   repeat' (first|with_reducible (first|refine ab ?_ ?_|exact True.intro|refine DQ ?_|assumption)|((with_reducible apply bH);intro hbq;(try simp only[bq] at hbq);(try (exfalso;omega)))|refine RQ ?_|(intro _;exact rfl)|((with_reducible apply db);rfl))
   rw[hr];rfl
 ·rw[if_neg h]
  refine FQ Tryz.func229 ?_;simp only[cu,Nat.zero_add,Nat.reduceAdd]
  repeat' (first|with_reducible (first|refine ab ?_ ?_|exact True.intro|exact bu.nil _|refine DQ ?_|fail)|((with_reducible apply aC);refine an (hC) rfl ?_)|((with_reducible apply bH);intro hbq;(try simp only[bq] at hbq);(try (exfalso;omega)))|refine RQ ?_|fail)
  ·rfl
theorem KY (cs:List (Int×Int)) (start:Int) (nm:ByteArray) (l sp ac br:Int) (hl:cs.length<=4611686018427387904):cd Tryz.prog 197 [.c (eI cs),.c (xI start),pj nm l sp ac br] [] (.cC [.c (fN (vT cs start l sp ac br)),.c (xI (dy cs start l sp ac br))]) []:=by
 have hC:=H6 cs start nm l sp ac br hl;unfold vT;by_cases h:dy cs start l sp ac br=0
 ·obtain ⟨hc,hn,hall,h0,h2⟩:=gL h
  obtain ⟨l1,l2,l3,l4,l5,l6,l7,l8⟩:=iu hc;obtain ⟨s,rfl⟩:=Int.eq_ofNat_of_zero_le h0;unfold nJ at hC;rw[h,if_pos rfl] at hC;rw[h,if_pos rfl];simp only[Int.toNat_natCast] at hC⊢;have b6:=aJ (cs.length-s+1) fun j=>((ju cs s l.toNat sp ac br j:Nat):Int)
  have b5: ∀ j,j<cs.length-s+1->(row (cs.length-s+1) fun j=>((ju cs s l.toNat sp ac br j:Nat):Int)).getD j 0=ju cs s l.toNat sp ac br j:=fun j hj=>ct hj
  generalize (row (cs.length-s+1) fun j=>((ju cs s l.toNat sp ac br j:Nat):Int))=vs at hC b6 b5;refine PQ Tryz.func197 ?_;simp only[cu,Nat.zero_add,Nat.reduceAdd]
  repeat' (first|with_reducible (first|refine ab ?_ ?_|exact True.intro|refine DQ ?_|fail)|((with_reducible apply aC);refine an (hC) rfl ?_)|((with_reducible apply bH);intro hbq;(try simp only[bq] at hbq);(try (exfalso;omega)))|refine RQ ?_|omega|(dsimp only;omega))
  clear hC;refine aH (fun i:Nat=>SS [sC 8 (fN vs),sC 10 (.c (.arr 1 0 (cs.length-s+1) (cs.length-s+1))),sI 11 (i+1:Nat)] [none,sW (row (cs.length-s+1) fun j=>if j<=i then wB cs s l.toNat sp ac br j else 0)]) (fun i=>i<=cs.length-s) (fun i=>cs.length-s-i) 0 ?_ (by omega) ?_
  ·
   refine WQ ?_ ?_<;>repeat' (first|with_reducible (first|refine KQ ?_|refine ab ?_ ?_|exact True.intro)|refine ax rfl ?_ ?_|exact aE.ah|exact aE.ao|exact aE.al|refine aN.cells ?_ ?_|refine aN.bF ?_ ?_|refine cg.cons ?_ ?_|exact (rfl:known _=_)|exact (rfl:aF _=true)|with_reducible rfl|omega)
   all_goals first
    |(rw[b6];rfl)
    |(
     rw[b6,Int.toNat_natCast,nC];refine ef fun j hj=> ?_
     by_cases hj0:j<=0
     ·rw[if_pos hj0,show j=0 by omega];rfl
     ·rw[if_neg hj0])
  intro i hi;have a6:=aJ (cs.length-s+1) fun j=>if j<=i then wB cs s l.toNat sp ac br j else 0
  by_cases hil:i<cs.length-s
  ·have e1:(((i+1:Nat):Int)-1).toNat=i:=by omega
   have e2:((i+1:Nat):Int).toNat=i+1:=by omega
   have a5:(row (cs.length-s+1) fun j=>if j<=i then wB cs s l.toNat sp ac br j else 0).getD (((i+1:Nat):Int)-1).toNat 0=wB cs s l.toNat sp ac br i:=by
    rw[e1,ct (by omega),if_pos (Nat.le_refl _)]
   have a4:=rP (start:=s) (l:=l.toNat) l3 l4 l5 l6 l7 l8 hall (by omega) i (by omega);have a7:=zT (start:=s) (l:=l.toNat) l3 l4 l5 l6 l7 l8 hall (by omega) i hil;have a8:=jT (start:=s) (l:=l.toNat) l3 l4 l5 l6 l7 l8 hall (by omega) i hil;have c1:=b5 i (by omega);have c2:=b5 (i+1) (by omega);have c3:vs.getD (((i+1:Nat):Int)-1).toNat 0=ju cs s l.toNat sp ac br i:=by rw[e1,c1]
   have c4:vs.getD ((i+1:Nat):Int).toNat 0=ju cs s l.toNat sp ac br (i+1):=by rw[e2,c2]
   have c5:Pl.cdiv 20000000 (vs.getD (((i+1:Nat):Int)-1).toNat 0+vs.getD ((i+1:Nat):Int).toNat 0)=Pl.cdiv 20000000 ((ju cs s l.toNat sp ac br i:Int)+ju cs s l.toNat sp ac br (i+1)):=by rw[c3,c4]
   rw[← c5] at a8;have hQ:=rY 20000000 (vs.getD (((i+1:Nat):Int)-1).toNat 0+vs.getD ((i+1:Nat):Int).toNat 0) (by omega) (by rw[c3,c4];omega)
   repeat' (first|with_reducible (first|exact BQ|exact VQ|refine ab ?_ ?_|exact True.intro|refine DQ ?_|assumption)|((with_reducible apply aC);refine an (hQ) rfl ?_)|((with_reducible apply bH);intro hbq;(try simp only[bq] at hbq);(try (exfalso;omega)))|refine RQ ?_|omega)
   ·rfl
   ·
    refine az (i+1) ?_ ((by omega)) (by (try dsimp only);omega);refine WQ ?_ ?_<;>repeat' (first|with_reducible (first|refine KQ ?_|refine ab ?_ ?_|exact True.intro)|refine ax rfl ?_ ?_|exact aE.ah|exact aE.ao|exact aE.al|refine aN.cells ?_ ?_|refine aN.bF ?_ ?_|refine cg.cons ?_ ?_|exact (rfl:known _=_)|exact (rfl:aF _=true)|with_reducible rfl|omega)
    all_goals (
     rw[a5,c5,e2];refine gm (i:=i+1) ?_ fun j hj hne=> ?_
     ·rw[if_pos (by omega)];rfl
     ·by_cases hji:j<=i
      ·rw[if_pos hji,if_pos (by omega)]
      ·rw[if_neg hji,if_neg (by omega)])
  ·have hr:row (cs.length-s+1) (fun j=>if j<=i then wB cs s l.toNat sp ac br j else 0)=row (cs.length-s+1) (wB cs s l.toNat sp ac br):=ef fun j hj=>if_pos (by omega)
   repeat' (first|with_reducible (first|refine ab ?_ ?_|exact True.intro|refine DQ ?_|assumption)|((with_reducible apply bH);intro hbq;(try simp only[bq] at hbq);(try (exfalso;omega)))|refine RQ ?_|(intro _;exact rfl)|((with_reducible apply db);rfl))
   rw[hr];rfl
 ·unfold nJ at hC
  rw[if_neg h] at hC⊢;refine FQ Tryz.func197 ?_;simp only[cu,Nat.zero_add,Nat.reduceAdd]
  repeat' (first|with_reducible (first|refine ab ?_ ?_|exact True.intro|exact bu.nil _|refine DQ ?_|fail)|((with_reducible apply aC);refine an (hC) rfl ?_)|((with_reducible apply bH);intro hbq;(try simp only[bq] at hbq);(try (exfalso;omega)))|refine RQ ?_|fail)
  ·rfl
theorem rh (n lo hi:Int):cd Tryz.prog 105 [.c (xI n),.c (xI lo),.c (xI hi)] [] (vB (decide (lo<=n)&&decide (n<=hi))) []:=by
 refine FQ Tryz.func105 ?_;simp only[cu,Nat.zero_add,Nat.reduceAdd]
 repeat' (first|with_reducible (first|refine ab ?_ ?_|exact True.intro|exact bu.nil _|assumption)|refine RQ ?_|(intro (hgq:(_:Bool)=true);(try simp only[bq] at hgq))|((with_reducible apply cH);simp only[bq]))
 repeat' (first|with_reducible (first|refine KQ ?_|exact True.intro)|refine mB.c ?_)
theorem OI (l sp ac br:Int):ic l sp ac br=((decide (1<=l)&&decide (l<=40))&&(decide (1000<=sp)&&decide (sp<=100000))&&(decide (100<=ac)&&decide (ac<=2000))&&(decide (100<=br)&&decide (br<=2000))):=by
 rw[Bool.eq_iff_iff];simp[ic,and_assoc]
theorem rZ (nm:ByteArray) (l sp ac br:Int):cd Tryz.prog 66 [pj nm l sp ac br] [] (vB (ic l sp ac br)) []:=by
 have h1:=rh l 1 40;have h2:=rh sp 1000 100000;have h3:=rh ac 100 2000;have h4:=rh br 100 2000;rw[OI];refine FQ Tryz.func66 ?_;simp only[cu,Nat.zero_add,Nat.reduceAdd]
 repeat' (first|with_reducible (first|refine ab ?_ ?_|exact True.intro|exact bu.nil _|refine DQ ?_|fail)|((with_reducible apply aC);refine an (h1) rfl ?_)|((with_reducible apply aZ);refine aX ((fun _=>h2)) rfl ?_ ?_)|((with_reducible apply aZ);refine aX ((fun _=>h3)) rfl ?_ ?_)|((with_reducible apply aZ);refine aX ((fun _=>h4)) rfl ?_ ?_)|refine RQ ?_|(intro (hgq:(_:Bool)=true);(try simp only[bq] at hgq))|((with_reducible apply cH);simp only[bq])|(simp only[hgq,bq];done))
 repeat' (first|with_reducible (first|refine KQ ?_|exact True.intro)|refine mB.c ?_)
theorem Hc (cs:List (Int×Int)) (start:Int) (nm:ByteArray) (l sp ac br:Int) (hl:cs.length<=4611686018427387904):cd Tryz.prog 202 [.c (eI cs),.c (xI start),pj nm l sp ac br] [] (vI (dy cs start l sp ac br)) []:=by
 have hC:=rZ nm l sp ac br;refine FQ Tryz.func202 ?_;simp only[cu,Nat.zero_add,Nat.reduceAdd]
 repeat' (first|with_reducible (first|refine ab ?_ ?_|exact True.intro|exact bu.nil _|refine DQ ?_|fail)|((with_reducible apply aC);refine an (hC) rfl ?_)|((with_reducible apply bH);intro hbq;(try simp only[bq] at hbq);(try (exfalso;omega)))|refine RQ ?_|fail)
 ·rw[NB (by simpa using hbq)];rfl
 ·rename_i a1
  rw[ND (by simpa using a1) (by omega)];rfl
 rename_i a1;clear hC;have b1:ic l sp ac br=true:=by simpa using a1
 have b2: ¬ 4000<cs.length:=by omega
 refine aH (fun i:Nat=>SS [sC 0 (eI cs),sI 1 start,sI 7 i] []) (fun i=>i<=cs.length/\ ∀ j,j<i->eG (cs.getD j (0,0))=true) (fun i=>cs.length-i) 0 ?_ ⟨by omega,fun j hj=>by omega⟩ ?_
 ·
  refine WQ ?_ ?_<;>repeat' (first|with_reducible (first|refine KQ ?_|refine ab ?_ ?_|exact True.intro)|refine ax rfl ?_ ?_|exact aE.ah|exact aE.ao|exact aE.al|refine aN.cells ?_ ?_|refine aN.bF ?_ ?_|refine cg.cons ?_ ?_|exact (rfl:known _=_)|exact (rfl:aF _=true)|with_reducible rfl|omega)
 intro i hi;obtain ⟨hi,hok⟩:=hi;have h1:=rh (cs.getD (i:Int).toNat (0,0)).1 1000 100000;have h2:=rh (cs.getD (i:Int).toNat (0,0)).2 (-40) 40
 repeat' (first|with_reducible (first|exact VQ|refine ab ?_ ?_|exact True.intro|exact bu.nil _|refine DQ ?_|assumption)|((with_reducible apply aC);refine an (h1) rfl ?_)|((with_reducible apply aZ);refine aX ((fun _=>h2)) rfl ?_ ?_)|((with_reducible apply bH);intro hbq;(try simp only[bq] at hbq);(try (exfalso;omega)))|refine RQ ?_|(intro (hgq:(_:Bool)=true);(try simp only[bq] at hgq))|(intro (hgq:(_:Bool)=false);(try simp only[bq] at hgq))|((with_reducible apply cH);simp only[bq])|(simp only[hgq,bq];done)|omega)
 ·have hb:eG (cs.getD (i:Int).toNat (0,0))=false:=by unfold eG;rw[decide_eq_false_iff_not];omega
  rw[NC b1 b2 (AN (i:=i) (by omega) hb)];rfl
 ·have hb:eG (cs.getD (i:Int).toNat (0,0))=true:=by unfold eG;rw[decide_eq_true_eq];omega
  refine az (i+1) ?_ (⟨by omega,N6 hok hb⟩) (by (try dsimp only);omega);refine WQ ?_ ?_<;>repeat' (first|with_reducible (first|refine KQ ?_|refine ab ?_ ?_|exact True.intro)|refine ax rfl ?_ ?_|exact aE.ah|exact aE.ao|exact aE.al|refine aN.cells ?_ ?_|refine aN.bF ?_ ?_|refine cg.cons ?_ ?_|exact (rfl:known _=_)|exact (rfl:aF _=true)|with_reducible rfl|omega)
 ·have hie:i=cs.length:=by omega
  subst hie;rw[IZ b1 b2 (nU hok) (by omega)];rfl
 ·have hie:i=cs.length:=by omega
  subst hie;rw[IY b1 b2 (nU hok) (by omega)];rfl
theorem sD (cs:List (Int×Int)) (k:Nat) (nm:ByteArray) (l sp ac br:Int) (hk:k<cs.length) (hl:cs.length<=4000) (h0:0<=l) (h1:l<=40):cd Tryz.prog 203 [.c (eI cs),.c (xI k),pj nm l sp ac br] [] (vI (cU cs k l.toNat sp)) []:=by
 refine FQ Tryz.func203 ?_;simp only[cu,Nat.zero_add,Nat.reduceAdd]
 repeat' (first|with_reducible (first|refine ab ?_ ?_|exact True.intro)|refine RQ ?_|omega)
 generalize hlo:k-l.toNat=lo;have elo:max 0 ((k:Int)-l)=lo:=by omega
 refine aH (fun i:Nat=>SS [sC 0 (eI cs),sI 1 k,sI 7 (sq cs lo i sp),sI 8 (lo+i:Nat)] []) (fun i=>lo+i<=k+1) (fun i=>k+1-i) 0 ?_ (by omega) ?_
 ·
  refine WQ ?_ ?_<;>repeat' (first|with_reducible (first|refine KQ ?_|refine ab ?_ ?_|exact True.intro)|refine ax rfl ?_ ?_|exact aE.ah|exact aE.ao|exact aE.al|refine aN.cells ?_ ?_|refine aN.bF ?_ ?_|refine cg.cons ?_ ?_|exact (rfl:known _=_)|exact (rfl:aF _=true)|with_reducible rfl|omega)
  all_goals rw[Dx]
 intro i hi
 repeat' (first|with_reducible (first|exact VQ|refine ab ?_ ?_|exact True.intro|exact bu.nil _|refine DQ ?_|fail)|((with_reducible apply bH);intro hbq;(try simp only[bq] at hbq);(try (exfalso;omega)))|refine RQ ?_|omega)
 ·
  refine az (i+1) ?_ ((by omega)) (by (try dsimp only);omega);refine WQ ?_ ?_<;>repeat' (first|with_reducible (first|refine KQ ?_|refine ab ?_ ?_|exact True.intro)|refine ax rfl ?_ ?_|exact aE.ah|exact aE.ao|exact aE.al|refine aN.cells ?_ ?_|refine aN.bF ?_ ?_|refine cg.cons ?_ ?_|exact (rfl:known _=_)|exact (rfl:aF _=true)|with_reducible rfl|omega)
  all_goals (rw[Dw _ _ _ _ (by omega),Int.toNat_natCast,lX _ _ (by omega)])
 ·have hie:i=k+1-lo:=by omega
  subst hie;rw[← hlo,xp];rfl
theorem IJ (c:Int×Int) (nm:ByteArray) (l sp ac br:Int) (h0: -40<=c.2/\c.2<=40) (h5:100<=ac) (h6:ac<=2000):cd Tryz.prog 204 [RY c,pj nm l sp ac br] [] (vI (PG c.2 ac)) []:=by
 unfold PG;refine FQ Tryz.func204 ?_;simp only[cu,Nat.zero_add,Nat.reduceAdd]
 repeat' (first|with_reducible (first|refine ab ?_ ?_|exact True.intro|exact bu.nil _)|((with_reducible apply bH);intro hbq;(try simp only[bq] at hbq);(try (exfalso;omega)))|refine RQ ?_|omega)
 ·rw[if_pos (by omega)];rfl
 ·rw[if_neg (by omega)];rfl
theorem I3 (c:Int×Int) (nm:ByteArray) (l sp ac br:Int) (h0: -40<=c.2/\c.2<=40) (h5:100<=br) (h6:br<=2000):cd Tryz.prog 205 [RY c,pj nm l sp ac br] [] (vI (Kg c.2 br)) []:=by
 unfold Kg;refine FQ Tryz.func205 ?_;simp only[cu,Nat.zero_add,Nat.reduceAdd]
 repeat' (first|with_reducible (first|refine ab ?_ ?_|exact True.intro|exact bu.nil _)|((with_reducible apply bH);intro hbq;(try simp only[bq] at hbq);(try (exfalso;omega)))|refine RQ ?_|omega)
 ·rw[if_pos (by omega)];rfl
 ·rw[if_neg (by omega)];rfl
theorem zG (cs:List (Int×Int)) (start:Int) (nm:ByteArray) (l sp ac br:Int) (hl:cs.length<=4611686018427387904):cd Tryz.prog 155 [.c (eI cs),.c (xI start),pj nm l sp ac br] [] (.cC [.c (fN (nJ cs start l sp ac br)),.c (xI (dy cs start l sp ac br))]) []:=by
 have hC:=Hc cs start nm l sp ac br hl;unfold nJ;by_cases h:dy cs start l sp ac br=0
 ·obtain ⟨hc,hn,hall,h0,h2⟩:=gL h
  obtain ⟨l1,l2,l3,l4,l5,l6,l7,l8⟩:=iu hc;obtain ⟨s,rfl⟩:=Int.eq_ofNat_of_zero_le h0;rw[h] at hC⊢;rw[if_pos rfl];simp only[Int.toNat_natCast];refine PQ Tryz.func155 ?_;simp only[cu,Nat.zero_add,Nat.reduceAdd]
  repeat' (first|with_reducible (first|refine ab ?_ ?_|exact True.intro|refine DQ ?_|fail)|((with_reducible apply aC);refine an (hC) rfl ?_)|((with_reducible apply bH);intro hbq;(try simp only[bq] at hbq);(try (exfalso;omega)))|refine RQ ?_|omega|(dsimp only;omega))
  clear hC;have eM:((cs.length:Int)-s)=(cs.length-s:Nat):=by omega
  refine aH (fun k:Nat=>SS [sC 0 (eI cs),sI 1 s,sC 5 (pB 0),sI 9 (cs.length-s:Nat),sC 10 (.c (.arr 1 0 (cs.length-s+1) (cs.length-s+1))),sI 11 (k+1:Nat)] [Lh nm l sp ac br,sW (row (cs.length-s+1) (nj cs s l.toNat sp (k+1)))]) (fun k=>k+1<=cs.length-s) (fun k=>cs.length-s-k) 0 ?_ (by omega) ?_
  ·
   refine WQ ?_ ?_<;>repeat' (first|with_reducible (first|refine KQ ?_|refine ab ?_ ?_|exact True.intro)|refine ax rfl ?_ ?_|exact aE.ah|exact aE.ao|exact aE.al|refine aN.cells ?_ ?_|refine aN.bF ?_ ?_|refine cg.cons ?_ ?_|exact (rfl:known _=_)|exact (rfl:aF _=true)|with_reducible rfl|omega)
   all_goals first
    |omega
    |(
     rw[show ((cs.length:Int)-s+1).toNat=cs.length-s+1 by omega,nC];refine ef fun j hj=> ?_
     unfold nj;rw[if_neg (by omega)])
    |(rw[show ((cs.length:Int)-s+1).toNat=cs.length-s+1 by omega])
  intro k hk;have a6:=aJ (cs.length-s+1) (nj cs s l.toNat sp (k+1));by_cases hlt:k+1<cs.length-s
  ·have hA:cd Tryz.prog 203 [.c (eI cs),.c (xI ((s:Int)+((k+1:Nat):Int)-1)),pj nm l sp ac br] [] (vI (cU cs (s+k) l.toNat sp)) []:=by
    rw[show (s:Int)+((k+1:Nat):Int)-1=((s+k:Nat):Int) by omega];exact sD cs (s+k) nm l sp ac br (by omega) hn (by omega) l2
   have hB:cd Tryz.prog 203 [.c (eI cs),.c (xI ((s:Int)+((k+1:Nat):Int))),pj nm l sp ac br] [] (vI (cU cs (s+k+1) l.toNat sp)) []:=by
    rw[show (s:Int)+((k+1:Nat):Int)=((s+k+1:Nat):Int) by omega];exact sD cs (s+k+1) nm l sp ac br (by omega) hn (by omega) l2
   have a1:=eH cs (s+k) l.toNat sp l3 hall;have a2:=eH cs (s+k+1) l.toNat sp l3 hall;have a3:=qC (cU cs (s+k) l.toNat sp) (cU cs (s+k+1) l.toNat sp) a1.1 (by omega) a2.1 (by omega)
   repeat' (first|with_reducible (first|exact BQ|exact VQ|refine ab ?_ ?_|exact True.intro|refine DQ ?_|fail)|((with_reducible apply aC);first|refine an (hA) rfl ?_|refine an (hB) rfl ?_)|((with_reducible apply bH);intro hbq;(try simp only[bq] at hbq);(try (exfalso;omega)))|refine RQ ?_|omega)
   ·rfl
   ·
    refine az (k+1) ?_ ((by omega)) (by (try dsimp only);omega);refine WQ ?_ ?_<;>repeat' (first|with_reducible (first|refine KQ ?_|refine ab ?_ ?_|exact True.intro)|refine ax rfl ?_ ?_|exact aE.ah|exact aE.ao|exact aE.al|refine aN.cells ?_ ?_|refine aN.bF ?_ ?_|refine cg.cons ?_ ?_|exact (rfl:known _=_)|exact (rfl:aF _=true)|with_reducible rfl|omega)
    all_goals (
     rw[Int.toNat_natCast];refine gm (i:=k+1) ?_ fun j hj hne=> ?_
     ·unfold nj Qb
      rw[if_pos (by omega),show s+(k+1)-1=s+k by omega,show s+(k+1)=s+k+1 by omega]
     ·unfold nj
      by_cases hj0:0<j/\j<k+1
      ·rw[if_pos hj0,if_pos (by omega)]
      ·rw[if_neg hj0,if_neg (by omega)])
  have hkM:k+1=cs.length-s:=by omega
  repeat' (first|with_reducible (first|refine ab ?_ ?_|exact True.intro|refine DQ ?_|fail)|((with_reducible apply bH);intro hbq;(try simp only[bq] at hbq);(try (exfalso;omega)))|refine RQ ?_|fail)
  rw[hkM] at a6⊢;clear a6;refine aH (fun k:Nat=>SS [sC 0 (eI cs),sI 1 s,sC 5 (pB 0),sI 9 (cs.length-s:Nat),sC 10 (.c (.arr 1 0 (cs.length-s+1) (cs.length-s+1))),sI 13 k] [Lh nm l sp ac br,sW (row (cs.length-s+1) fun j=>if j<=k then v9 cs s l.toNat sp ac j else nj cs s l.toNat sp (cs.length-s) j)]) (fun k=>k<=cs.length-s) (fun k=>cs.length-s-k) 0 ?_ (by omega) ?_
  ·
   refine WQ ?_ ?_<;>repeat' (first|with_reducible (first|refine KQ ?_|refine ab ?_ ?_|exact True.intro)|refine ax rfl ?_ ?_|exact aE.ah|exact aE.ao|exact aE.al|refine aN.cells ?_ ?_|refine aN.bF ?_ ?_|refine cg.cons ?_ ?_|exact (rfl:known _=_)|exact (rfl:aF _=true)|with_reducible rfl|omega)
   all_goals (
    refine ef fun j hj=> ?_
    by_cases hj0:j<=0
    ·rw[if_pos hj0,show j=0 by omega]
     unfold nj v9;rw[if_neg (by omega),if_pos (by omega)];rfl
    ·rw[if_neg hj0])
  clear hk hkM hlt;intro k hk;have a6:(row (cs.length-s+1) fun j=>if j<=k then v9 cs s l.toNat sp ac j else nj cs s l.toNat sp (cs.length-s) j).length=_:=aJ _ _;by_cases hlt:k<cs.length-s
  ·have e1:((s:Int)+k).toNat=s+k:=by omega
   have e2:((k:Int)+1).toNat=k+1:=by omega
   have hce:=cell_of (List.all_eq_true.1 hall _ (List.getElem_mem (show s+k<cs.length by omega)));have eg:(cs.getD ((s:Int)+k).toNat (0,0))=cs[s+k]:=by rw[e1];exact lX _ _ _
   rw[← eg] at hce;have hG:=IJ (cs.getD ((s:Int)+k).toNat (0,0)) nm l sp ac br ⟨hce.2.2.1,hce.2.2.2⟩ l5 l6;have hgr:=lW (cs.getD ((s:Int)+k).toNat (0,0)).2 ac l5 l6;rw[xe] at hgr;have a5:(row (cs.length-s+1) fun j=>if j<=k then v9 cs s l.toNat sp ac j else nj cs s l.toNat sp (cs.length-s) j).getD (k:Int).toNat 0=v9 cs s l.toNat sp ac k:=by rw[Int.toNat_natCast,ct (by omega),if_pos (Nat.le_refl _)]
   have a7:(row (cs.length-s+1) fun j=>if j<=k then v9 cs s l.toNat sp ac j else nj cs s l.toNat sp (cs.length-s) j).getD ((k:Int)+1).toNat 0=nj cs s l.toNat sp (cs.length-s) (k+1):=by rw[e2,ct (by omega),if_neg (by omega)]
   have a3:=rb (start:=s) (l:=l.toNat) l3 l4 l5 l6 hall k;have a4:=GN (start:=s) (l:=l.toNat) l3 l4 hall (cs.length-s) (k+1)
   repeat' (first|with_reducible (first|exact BQ|exact VQ|refine ab ?_ ?_|exact True.intro|refine DQ ?_|fail)|((with_reducible apply aC);refine an (hG) rfl ?_)|((with_reducible apply bH);intro hbq;(try simp only[bq] at hbq);(try (exfalso;omega)))|refine RQ ?_|omega)
   ·rfl
   ·
    refine az (k+1) ?_ ((by omega)) (by (try dsimp only);omega);refine WQ ?_ ?_<;>repeat' (first|with_reducible (first|refine KQ ?_|refine ab ?_ ?_|exact True.intro)|refine ax rfl ?_ ?_|exact aE.ah|exact aE.ao|exact aE.al|refine aN.cells ?_ ?_|refine aN.bF ?_ ?_|refine cg.cons ?_ ?_|exact (rfl:known _=_)|exact (rfl:aF _=true)|with_reducible rfl|omega)
    all_goals (
     rw[a5,a7,e1,e2,← xe,Jv l3 l4 l5 l6 hall k hlt];refine gm (i:=k+1) ?_ fun j hj hne=> ?_
     ·rw[if_pos (Nat.le_refl _)]
     ·by_cases hji:j<=k
      ·rw[if_pos hji,if_pos (by omega)]
      ·rw[if_neg hji,if_neg (by omega)])
  have hkM:k=cs.length-s:=by omega
  repeat' (first|with_reducible (first|refine ab ?_ ?_|exact True.intro|refine DQ ?_|fail)|((with_reducible apply bH);intro hbq;(try simp only[bq] at hbq);(try (exfalso;omega)))|refine RQ ?_|fail)
  refine aH (fun d:Nat=>SS [sC 0 (eI cs),sI 1 s,sC 5 (pB 0),sI 9 (cs.length-s:Nat),sC 10 (.c (.arr 1 0 (cs.length-s+1) (cs.length-s+1))),sI 14 (((cs.length-s:Nat):Int)-d)] [Lh nm l sp ac br,sW (row (cs.length-s+1) fun j=>if j+d<cs.length-s then v9 cs s l.toNat sp ac j else lG cs s l.toNat sp ac br j)]) (fun d=>d<=cs.length-s) (fun d=>cs.length-s-d) 0 ?_ (by omega) ?_
  ·
   refine WQ ?_ ?_<;>repeat' (first|with_reducible (first|refine KQ ?_|refine ab ?_ ?_|exact True.intro)|refine ax rfl ?_ ?_|exact aE.ah|exact aE.ao|exact aE.al|refine aN.cells ?_ ?_|refine aN.bF ?_ ?_|refine cg.cons ?_ ?_|exact (rfl:known _=_)|exact (rfl:aF _=true)|with_reducible rfl|omega)
   all_goals (
    refine ef fun j hj=> ?_
    rw[if_pos (by omega)];by_cases hj0:j<cs.length-s
    ·rw[if_pos (by omega)]
    ·rw[if_neg (by omega),show j=cs.length-s by omega,FO (by omega)]
     unfold v9;rw[if_neg (by omega)])
  clear hk hkM hlt a6;intro d hd;have a6:(row (cs.length-s+1) fun j=>if j+d<cs.length-s then v9 cs s l.toNat sp ac j else lG cs s l.toNat sp ac br j).length=_:=aJ _ _;by_cases hlt:d<cs.length-s
  ·generalize he:cs.length-s-d-1=e
   have e1:((s:Int)+(((cs.length-s:Nat):Int)-d)-1).toNat=s+e:=by omega
   have e2:(((cs.length-s:Nat):Int)-d-1).toNat=e:=by omega
   have e3:(((cs.length-s:Nat):Int)-d).toNat=e+1:=by omega
   have hce:=cell_of (List.all_eq_true.1 hall _ (List.getElem_mem (show s+e<cs.length by omega)));have eg:(cs.getD ((s:Int)+(((cs.length-s:Nat):Int)-d)-1).toNat (0,0))=cs[s+e]:=by rw[e1];exact lX _ _ _
   rw[← eg] at hce;have hG:=I3 (cs.getD ((s:Int)+(((cs.length-s:Nat):Int)-d)-1).toNat (0,0)) nm l sp ac br ⟨hce.2.2.1,hce.2.2.2⟩ l7 l8;have hgr:=mb (cs.getD ((s:Int)+(((cs.length-s:Nat):Int)-d)-1).toNat (0,0)).2 br l7 l8;rw[xq] at hgr;have a5:(row (cs.length-s+1) fun j=>if j+d<cs.length-s then v9 cs s l.toNat sp ac j else lG cs s l.toNat sp ac br j).getD (((cs.length-s:Nat):Int)-d).toNat 0=lG cs s l.toNat sp ac br (e+1):=by rw[e3,ct (by omega),if_neg (by omega)]
   have a7:(row (cs.length-s+1) fun j=>if j+d<cs.length-s then v9 cs s l.toNat sp ac j else lG cs s l.toNat sp ac br j).getD (((cs.length-s:Nat):Int)-d-1).toNat 0=v9 cs s l.toNat sp ac e:=by rw[e2,ct (by omega),if_pos (by omega)]
   have a3:=rb (start:=s) (l:=l.toNat) l3 l4 l5 l6 hall e;have a4:=jv (start:=s) (l:=l.toNat) l3 l4 l5 l6 l7 l8 hall (e+1)
   repeat' (first|with_reducible (first|exact BQ|exact VQ|refine ab ?_ ?_|exact True.intro|refine DQ ?_|fail)|((with_reducible apply aC);refine an (hG) rfl ?_)|((with_reducible apply bH);intro hbq;(try simp only[bq] at hbq);(try (exfalso;omega)))|refine RQ ?_|omega)
   ·rfl
   ·
    refine az (d+1) ?_ ((by omega)) (by (try dsimp only);omega);refine WQ ?_ ?_<;>repeat' (first|with_reducible (first|refine KQ ?_|refine ab ?_ ?_|exact True.intro)|refine ax rfl ?_ ?_|exact aE.ah|exact aE.ao|exact aE.al|refine aN.cells ?_ ?_|refine aN.bF ?_ ?_|refine cg.cons ?_ ?_|exact (rfl:known _=_)|exact (rfl:aF _=true)|with_reducible rfl|omega)
    all_goals (
     rw[a5,a7,e1,e2,← xq,KP l3 l4 l5 l6 l7 l8 hall e (by omega)];refine gm (i:=e) ?_ fun j hj hne=> ?_
     ·rw[if_neg (by omega)]
     ·by_cases hji:j+d<cs.length-s
      ·rw[if_pos hji,if_pos (by omega)]
      ·rw[if_neg hji,if_neg (by omega)])
  have hkM:d=cs.length-s:=by omega
  repeat' (first|with_reducible (first|refine ab ?_ ?_|exact True.intro|refine DQ ?_|fail)|((with_reducible apply bH);intro hbq;(try simp only[bq] at hbq);(try (exfalso;omega)))|refine RQ ?_|fail)
  refine aH (fun i:Nat=>SS [sI 9 (cs.length-s:Nat),sC 10 (.c (.arr 1 0 (cs.length-s+1) (cs.length-s+1))),sI 15 i] [none,sW (row (cs.length-s+1) fun j=>if j<i then ((ju cs s l.toNat sp ac br j:Nat):Int) else lG cs s l.toNat sp ac br j)]) (fun i=>i<=cs.length-s+1) (fun i=>cs.length-s+1-i) 0 ?_ (by omega) ?_
  ·
   refine WQ ?_ ?_<;>repeat' (first|with_reducible (first|refine KQ ?_|refine ab ?_ ?_|exact True.intro)|refine ax rfl ?_ ?_|exact aE.ah|exact aE.ao|exact aE.al|refine aN.cells ?_ ?_|refine aN.bF ?_ ?_|refine cg.cons ?_ ?_|exact (rfl:known _=_)|exact (rfl:aF _=true)|with_reducible rfl|omega)
   all_goals (
    refine ef fun j hj=> ?_
    rw[if_neg (by omega),if_neg (by omega)])
  clear hd hkM hlt a6;intro i hi;have a6:(row (cs.length-s+1) fun j=>if j<i then ((ju cs s l.toNat sp ac br j:Nat):Int) else lG cs s l.toNat sp ac br j).length=_:=aJ _ _;have a4:=jv (start:=s) (l:=l.toNat) l3 l4 l5 l6 l7 l8 hall i;by_cases hil:i<cs.length-s+1
  ·have a5:(row (cs.length-s+1) fun j=>if j<i then ((ju cs s l.toNat sp ac br j:Nat):Int) else lG cs s l.toNat sp ac br j).getD (i:Int).toNat 0=lG cs s l.toNat sp ac br i:=by
    rw[Int.toNat_natCast,ct hil,if_neg (by omega)]
   have hQ:=BT ((row (cs.length-s+1) fun j=>if j<i then ((ju cs s l.toNat sp ac br j:Nat):Int) else lG cs s l.toNat sp ac br j).getD (i:Int).toNat 0) (by rw[a5];omega)
   repeat' (first|with_reducible (first|exact VQ|refine ab ?_ ?_|exact True.intro|refine DQ ?_|fail)|((with_reducible apply aC);refine an (hQ) rfl ?_)|((with_reducible apply bH);intro hbq;(try simp only[bq] at hbq);(try (exfalso;omega)))|refine RQ ?_|omega)
   ·rfl
   ·
    refine az (i+1) ?_ ((by omega)) (by (try dsimp only);omega);refine WQ ?_ ?_<;>repeat' (first|with_reducible (first|refine KQ ?_|refine ab ?_ ?_|exact True.intro)|refine ax rfl ?_ ?_|exact aE.ah|exact aE.ao|exact aE.al|refine aN.cells ?_ ?_|refine aN.bF ?_ ?_|refine cg.cons ?_ ?_|exact (rfl:known _=_)|exact (rfl:aF _=true)|with_reducible rfl|omega)
    all_goals (
     rw[a5,Int.toNat_natCast];refine gm (i:=i) ?_ fun j hj hne=> ?_
     ·rw[if_pos (by omega)];rfl
     ·by_cases hji:j<i
      ·rw[if_pos hji,if_pos (by omega)]
      ·rw[if_neg hji,if_neg (by omega)])
  ·have hr:(row (cs.length-s+1) fun j=>if j<i then ((ju cs s l.toNat sp ac br j:Nat):Int) else lG cs s l.toNat sp ac br j)=row (cs.length-s+1) fun j=>((ju cs s l.toNat sp ac br j:Nat):Int):=ef fun j hj=>if_pos (by omega)
   repeat' (first|with_reducible (first|refine ab ?_ ?_|exact True.intro|refine DQ ?_|assumption)|((with_reducible apply bH);intro hbq;(try simp only[bq] at hbq);(try (exfalso;omega)))|refine RQ ?_|(intro _;exact rfl)|((with_reducible apply db);rfl))
   rw[hr];rfl
 ·rw[if_neg h]
  refine FQ Tryz.func155 ?_;simp only[cu,Nat.zero_add,Nat.reduceAdd]
  repeat' (first|with_reducible (first|refine ab ?_ ?_|exact True.intro|exact bu.nil _|refine DQ ?_|fail)|((with_reducible apply aC);refine an (hC) rfl ?_)|((with_reducible apply bH);intro hbq;(try simp only[bq] at hbq);(try (exfalso;omega)))|refine RQ ?_|fail)
  ·rfl
theorem BU (cs:List (Int×Int)) (start:Int) (nm:ByteArray) (l sp ac br:Int) (hl:cs.length<=4611686018427387904):cd Tryz.prog 117 [.c (eI cs),.c (xI start),pj nm l sp ac br] [] (.cC [.c (fN (vT cs start l sp ac br)),.c (xI (dy cs start l sp ac br))]) []:=by
 have hC:=zG cs start nm l sp ac br hl;unfold vT;by_cases h:dy cs start l sp ac br=0
 ·obtain ⟨hc,hn,hall,h0,h2⟩:=gL h
  obtain ⟨l1,l2,l3,l4,l5,l6,l7,l8⟩:=iu hc;obtain ⟨s,rfl⟩:=Int.eq_ofNat_of_zero_le h0;unfold nJ at hC;rw[h,if_pos rfl] at hC;rw[h,if_pos rfl];simp only[Int.toNat_natCast] at hC⊢;have b6:=aJ (cs.length-s+1) fun j=>((ju cs s l.toNat sp ac br j:Nat):Int)
  have b5: ∀ j,j<cs.length-s+1->(row (cs.length-s+1) fun j=>((ju cs s l.toNat sp ac br j:Nat):Int)).getD j 0=ju cs s l.toNat sp ac br j:=fun j hj=>ct hj
  generalize (row (cs.length-s+1) fun j=>((ju cs s l.toNat sp ac br j:Nat):Int))=vs at hC b6 b5;refine PQ Tryz.func117 ?_;simp only[cu,Nat.zero_add,Nat.reduceAdd]
  repeat' (first|with_reducible (first|refine ab ?_ ?_|exact True.intro|refine DQ ?_|fail)|((with_reducible apply aC);refine an (hC) rfl ?_)|((with_reducible apply bH);intro hbq;(try simp only[bq] at hbq);(try (exfalso;omega)))|refine RQ ?_|omega|(dsimp only;omega))
  clear hC;refine aH (fun i:Nat=>SS [sC 8 (fN vs),sC 10 (.c (.arr 1 0 (cs.length-s+1) (cs.length-s+1))),sI 11 (i+1:Nat)] [none,sW (row (cs.length-s+1) fun j=>if j<=i then wB cs s l.toNat sp ac br j else 0)]) (fun i=>i<=cs.length-s) (fun i=>cs.length-s-i) 0 ?_ (by omega) ?_
  ·
   refine WQ ?_ ?_<;>repeat' (first|with_reducible (first|refine KQ ?_|refine ab ?_ ?_|exact True.intro)|refine ax rfl ?_ ?_|exact aE.ah|exact aE.ao|exact aE.al|refine aN.cells ?_ ?_|refine aN.bF ?_ ?_|refine cg.cons ?_ ?_|exact (rfl:known _=_)|exact (rfl:aF _=true)|with_reducible rfl|omega)
   all_goals first
    |(rw[b6];rfl)
    |(
     rw[b6,Int.toNat_natCast,nC];refine ef fun j hj=> ?_
     by_cases hj0:j<=0
     ·rw[if_pos hj0,show j=0 by omega];rfl
     ·rw[if_neg hj0])
  intro i hi;have a6:=aJ (cs.length-s+1) fun j=>if j<=i then wB cs s l.toNat sp ac br j else 0
  by_cases hil:i<cs.length-s
  ·have e1:(((i+1:Nat):Int)-1).toNat=i:=by omega
   have e2:((i+1:Nat):Int).toNat=i+1:=by omega
   have a5:(row (cs.length-s+1) fun j=>if j<=i then wB cs s l.toNat sp ac br j else 0).getD (((i+1:Nat):Int)-1).toNat 0=wB cs s l.toNat sp ac br i:=by
    rw[e1,ct (by omega),if_pos (Nat.le_refl _)]
   have a4:=rP (start:=s) (l:=l.toNat) l3 l4 l5 l6 l7 l8 hall (by omega) i (by omega);have a7:=zT (start:=s) (l:=l.toNat) l3 l4 l5 l6 l7 l8 hall (by omega) i hil;have a8:=jT (start:=s) (l:=l.toNat) l3 l4 l5 l6 l7 l8 hall (by omega) i hil;have c1:=b5 i (by omega);have c2:=b5 (i+1) (by omega);have c3:vs.getD (((i+1:Nat):Int)-1).toNat 0=ju cs s l.toNat sp ac br i:=by rw[e1,c1]
   have c4:vs.getD ((i+1:Nat):Int).toNat 0=ju cs s l.toNat sp ac br (i+1):=by rw[e2,c2]
   have c5:Pl.cdiv 20000000 (vs.getD (((i+1:Nat):Int)-1).toNat 0+vs.getD ((i+1:Nat):Int).toNat 0)=Pl.cdiv 20000000 ((ju cs s l.toNat sp ac br i:Int)+ju cs s l.toNat sp ac br (i+1)):=by rw[c3,c4]
   rw[← c5] at a8;have hQ:=sA 20000000 (vs.getD (((i+1:Nat):Int)-1).toNat 0+vs.getD ((i+1:Nat):Int).toNat 0) (by omega) (by rw[c3,c4];omega)
   repeat' (first|with_reducible (first|exact BQ|exact VQ|refine ab ?_ ?_|exact True.intro|refine DQ ?_|assumption)|((with_reducible apply aC);refine an (hQ) rfl ?_)|((with_reducible apply bH);intro hbq;(try simp only[bq] at hbq);(try (exfalso;omega)))|refine RQ ?_|omega)
   ·rfl
   ·
    refine az (i+1) ?_ ((by omega)) (by (try dsimp only);omega);refine WQ ?_ ?_<;>repeat' (first|with_reducible (first|refine KQ ?_|refine ab ?_ ?_|exact True.intro)|refine ax rfl ?_ ?_|exact aE.ah|exact aE.ao|exact aE.al|refine aN.cells ?_ ?_|refine aN.bF ?_ ?_|refine cg.cons ?_ ?_|exact (rfl:known _=_)|exact (rfl:aF _=true)|with_reducible rfl|omega)
    all_goals (
     rw[a5,c5,e2];refine gm (i:=i+1) ?_ fun j hj hne=> ?_
     ·rw[if_pos (by omega)];rfl
     ·by_cases hji:j<=i
      ·rw[if_pos hji,if_pos (by omega)]
      ·rw[if_neg hji,if_neg (by omega)])
  ·have hr:row (cs.length-s+1) (fun j=>if j<=i then wB cs s l.toNat sp ac br j else 0)=row (cs.length-s+1) (wB cs s l.toNat sp ac br):=ef fun j hj=>if_pos (by omega)
   repeat' (first|with_reducible (first|refine ab ?_ ?_|exact True.intro|refine DQ ?_|assumption)|((with_reducible apply bH);intro hbq;(try simp only[bq] at hbq);(try (exfalso;omega)))|refine RQ ?_|(intro _;exact rfl)|((with_reducible apply db);rfl))
   rw[hr];rfl
 ·unfold nJ at hC
  rw[if_neg h] at hC⊢;refine FQ Tryz.func117 ?_;simp only[cu,Nat.zero_add,Nat.reduceAdd]
  repeat' (first|with_reducible (first|refine ab ?_ ?_|exact True.intro|exact bu.nil _|refine DQ ?_|fail)|((with_reducible apply aC);refine an (hC) rfl ?_)|((with_reducible apply bH);intro hbq;(try simp only[bq] at hbq);(try (exfalso;omega)))|refine RQ ?_|fail)
  ·rfl
abbrev sO (st:List bD) (ov:Int):SV:= .agg [mK st,xI ov]
def tight (L:bJ) (l:Int) (s:bD):Bool:=decide ((fP L s).len<max 2 l)
def b8 (L:bJ) (r:jV) (l sp ac br:Int):Int:=if cZ L r≠0 then cZ L r else if ic l sp ac br=false then 1 else if (bN r).any (tight L l)=true then 12 else 0
section
variable {L:bJ} {r:jV} {l sp ac br:Int}
theorem NN (h: ¬ cZ L r=0):b8 L r l sp ac br=cZ L r:=if_pos h
theorem NM (h:cZ L r=0) (h2:ic l sp ac br=false):b8 L r l sp ac br=1:=by unfold b8;rw[if_neg (by simpa using h),if_pos h2]
theorem Jr (h:cZ L r=0) (h2:ic l sp ac br=true) (h3:(bN r).any (tight L l)=true):b8 L r l sp ac br=12:=by unfold b8;rw[if_neg (by simpa using h),if_neg (by rw[h2];decide),if_pos h3]
theorem Jq (h:cZ L r=0) (h2:ic l sp ac br=true) (h3:(bN r).any (tight L l)=false):b8 L r l sp ac br=0:=by unfold b8;rw[if_neg (by simpa using h),if_neg (by rw[h2];decide),if_neg (by rw[h3];decide)]
theorem eQ (h:cZ L r=0):cw L r=0:=by
 unfold cZ at h;split at h
 ·exact h
 ·rename_i h2;simpa using h2
theorem tL (h:mN L r):((bN r).length:Int)=r.st.length-r.ov:=by
 have:=h.ov0;have:=h.two;have:=h.ov;unfold bN;rw[List.length_take];omega
theorem vU (h:mN L r) {i:Nat} (hi:(i:Int)<r.st.length-r.ov):(bN r).getD i bd=r.st.getD i bd:=by
 unfold bN;rw[List.getD_eq_getElem?_getD,List.getD_eq_getElem?_getD,List.getElem?_take_of_lt (by omega)]
theorem yy {l:List bD} {p:bD->Bool} {i:Nat} (hi:i<l.length) (h:p (l.getD i bd)=true):l.any p=true:=by
 rw[List.getD_eq_getElem?_getD,List.getElem?_eq_getElem hi] at h;exact List.any_eq_true.2 ⟨_,List.getElem_mem hi,h⟩
theorem yz {l:List bD} {p:bD->Bool} (h: ∀ j,j<l.length->p (l.getD j bd)=false):l.any p=false:=by
 rw[Bool.eq_false_iff];intro ha;obtain ⟨x,hx,h1⟩:=List.any_eq_true.1 ha;obtain ⟨i,hi,rfl⟩:=List.mem_iff_getElem.1 hx;have:=h i hi;rw[List.getD_eq_getElem?_getD,List.getElem?_eq_getElem hi] at this;rw[show (some l[i]).getD bd=l[i] from rfl] at this;rw[this] at h1;cases h1
end
theorem qG (st:List bD) (ov:Int) (hl:st.length<=9223372036854775807) (h0:0<=ov/\ov<=st.length):cd Tryz.prog 198 [sO st ov] [] (.c (mK (bN ⟨st,ov⟩))) []:=by
 unfold bN;refine FQ Tryz.func198 ?_;simp only[cu,Nat.zero_add,Nat.reduceAdd]
 repeat' (first|with_reducible (first|refine ab ?_ ?_|exact True.intro|exact bu.nil _)|refine RQ ?_|(intro _;exact rfl)|omega)
 repeat' (first|with_reducible (first|refine KQ ?_|exact True.intro)|refine mB.c ?_)
theorem Dl (L:bJ) (hL:bZ L) (st:List bD) (ov:Int) (hl:st.length<=9223372036854775807) (ho: -9223372036854775808<=ov/\ov<=9223372036854775807) (nm:ByteArray) (l sp ac br:Int):cd Tryz.prog 194 [bK L,sO st ov,pj nm l sp ac br] [] (.cC [.agg [eI (if b8 L ⟨st,ov⟩ l sp ac br=0 then dZ L (bN ⟨st,ov⟩) else []),xI (if b8 L ⟨st,ov⟩ l sp ac br=0 then dL L ⟨st,ov⟩ else 0)],.c (xI (b8 L ⟨st,ov⟩ l sp ac br))]) []:=by
 have hC:=mZ L hL st ov hl ho;have hK:=C7 nm l sp ac br;by_cases hc:cZ L ⟨st,ov⟩=0
 ·have hr:=cJ (eQ hc)
  have hT:=qG st ov hl ⟨hr.ov0,by have:=hr.two;simp only at this;omega⟩;have htl:=tL hr;have hr1:=hr.ov0;have hr3:=hr.len;simp only at hr1 hr3
  have hV:=df hr.lay;have hn3:=hV.n3;have hok:=pJ hr.ok ((st.length:Int)-ov).toNat;change (bN ⟨st,ov⟩).all (bD.ok L)=true at hok
  unfold oO at hC;rw[hc,if_pos rfl] at hC;generalize hts:bN ⟨st,ov⟩=ts at*;simp only at htl;generalize dL L ⟨st,ov⟩=one at hC⊢;unfold bK at hC⊢;refine FQ Tryz.func194 ?_;simp only[cu,Nat.zero_add,Nat.reduceAdd]
  repeat' (first|with_reducible (first|refine ab ?_ ?_|exact True.intro|exact bu.nil _|refine DQ ?_|fail)|((with_reducible apply aC);first|refine an (hC) rfl ?_|refine an (hK) rfl ?_|refine an (hT) rfl ?_)|((with_reducible apply bH);intro hbq;(try simp only[bq] at hbq);(try (exfalso;omega)))|refine RQ ?_|fail)
  ·rw[NM hc hbq];rfl
  have hb':=hbq;clear hC hK hT;have hq:=iu hbq;refine aH (fun i:Nat=>SS [sC 3 (pB 0),sC 5 (pB 2),sC 6 (pB 3),sC 8 (eI (dZ L ts)),sI 9 one,sC 29 (mK ts),sI 30 ts.length,sI 31 i] [lQ L,none,Lh nm l sp ac br,some (.cells [.c (.f .nils),xI 0])]) (fun i=>i<=ts.length/\ ∀ j,j<i->tight L l (ts.getD j bd)=false) (fun i=>ts.length-i) 0 ?_ ⟨by omega,fun j hj=>by omega⟩ ?_
  ·
   refine WQ ?_ ?_<;>repeat' (first|with_reducible (first|refine KQ ?_|refine ab ?_ ?_|exact True.intro)|refine ax rfl ?_ ?_|exact aE.ah|exact aE.ao|exact aE.al|refine aN.cells ?_ ?_|refine aN.bF ?_ ?_|refine cg.cons ?_ ?_|exact (rfl:known _=_)|exact (rfl:aF _=true)|with_reducible rfl|omega)
  intro i hi;obtain ⟨hi,hno⟩:=hi;have hsec:(i:Int)<ts.length->0<=(ts.getD (i:Int).toNat { sec:=0,dir:=0 }).sec/\(ts.getD (i:Int).toNat { sec:=0,dir:=0 }).sec<L.secs.length:=fun h=>by
   obtain ⟨x,y,_⟩:=dE (dY (i:=i) hok (by omega));exact ⟨x,y⟩
  repeat' (first|with_reducible (first|exact BQ|exact VQ|refine ab ?_ ?_|exact True.intro|exact bu.nil _|refine DQ ?_|assumption)|((with_reducible apply bH);intro hbq;(try simp only[bq] at hbq);(try (exfalso;omega)))|refine RQ ?_|omega)
  ·rw[Jr hc hb' (yy (i:=i) (by rw[hts];omega) (by rw[hts];unfold tight fP;simpa using hbq))];rfl
  ·
   refine az (i+1) ?_ (⟨by omega,bR hno (by unfold tight fP;simpa using hbq)⟩) (by (try dsimp only);omega);refine WQ ?_ ?_<;>repeat' (first|with_reducible (first|refine KQ ?_|refine ab ?_ ?_|exact True.intro)|refine ax rfl ?_ ?_|exact aE.ah|exact aE.ao|exact aE.al|refine aN.cells ?_ ?_|refine aN.bF ?_ ?_|refine cg.cons ?_ ?_|exact (rfl:known _=_)|exact (rfl:aF _=true)|with_reducible rfl|omega)
  ·rw[Jq hc hb' (by rw[hts];exact yz fun j hj=>hno j (by omega))];rfl
 ·rw[NN hc,if_neg hc,if_neg hc]
  unfold oO dL at hC;rw[if_neg hc,if_neg hc] at hC;unfold bK at hC⊢;refine FQ Tryz.func194 ?_;simp only[cu,Nat.zero_add,Nat.reduceAdd]
  repeat' (first|with_reducible (first|refine ab ?_ ?_|exact True.intro|exact bu.nil _|refine DQ ?_|fail)|((with_reducible apply aC);refine an (hC) rfl ?_)|((with_reducible apply bH);intro hbq;(try simp only[bq] at hbq);(try (exfalso;omega)))|refine RQ ?_|fail)
  ·rfl
theorem Md (L:bJ) (hL:bZ L) (st:List bD) (ov:Int) (hl:st.length<=9223372036854775807) (ho: -9223372036854775808<=ov/\ov<=9223372036854775807) (nm:ByteArray) (l sp ac br:Int):cd Tryz.prog 148 [bK L,sO st ov,pj nm l sp ac br] [] (vI (b8 L ⟨st,ov⟩ l sp ac br)) []:=by
 have hF:=Dl L hL st ov hl ho nm l sp ac br;unfold bK at hF⊢
 refine FQ Tryz.func148 ?_;simp only[cu,Nat.zero_add,Nat.reduceAdd]
 repeat' (first|with_reducible (first|refine ab ?_ ?_|exact True.intro|exact bu.nil _|refine DQ ?_|fail)|((with_reducible apply aC);refine an (hF) rfl ?_)|refine RQ ?_|fail)
 repeat' (first|with_reducible (first|refine KQ ?_|exact True.intro)|refine mB.c ?_)
theorem o9 (L:bJ) (hL:bZ L) (st:List bD) (ov:Int) (hl:st.length<=9223372036854775807) (ho: -9223372036854775808<=ov/\ov<=9223372036854775807) (nm:ByteArray) (l sp ac br:Int):cd Tryz.prog 115 [bK L,sO st ov,pj nm l sp ac br] [] (vI (b8 L ⟨st,ov⟩ l sp ac br)) []:=by
 have hC:=sB L hL st ov hl ho;have hK:=rZ nm l sp ac br;by_cases hc:cZ L ⟨st,ov⟩=0
 ·have hr:=cJ (eQ hc)
  have hr1:=hr.ov0;have hr2:=hr.two;have hr3:=hr.len;have hr4:=hr.ok;simp only at hr1 hr2 hr3 hr4
  have htl:=tL hr;have hV:=df hr.lay;have hn3:=hV.n3;rw[hc] at hC
  unfold bK at hC⊢;refine FQ Tryz.func115 ?_;simp only[cu,Nat.zero_add,Nat.reduceAdd]
  repeat' (first|with_reducible (first|refine ab ?_ ?_|exact True.intro|exact bu.nil _|refine DQ ?_|fail)|((with_reducible apply aC);first|refine an (hC) rfl ?_|refine an (hK) rfl ?_)|((with_reducible apply bH);intro hbq;(try simp only[bq] at hbq);(try (exfalso;omega)))|refine RQ ?_|fail)
  ·rw[NM hc hbq];rfl
  have hb':=hbq;clear hC hK;have hq:=iu hbq;refine aH (fun i:Nat=>SS [sC 3 (pB 0),sC 4 (pB 1),sC 5 (pB 2),sI 10 i] [lQ L,kK st ov,Lh nm l sp ac br]) (fun i=>(i:Int)<=st.length-ov/\ ∀ j,j<i->tight L l (st.getD j bd)=false) (fun i=>st.length-i) 0 ?_ ⟨by omega,fun j hj=>by omega⟩ ?_
  ·
   refine WQ ?_ ?_<;>repeat' (first|with_reducible (first|refine KQ ?_|refine ab ?_ ?_|exact True.intro)|refine ax rfl ?_ ?_|exact aE.ah|exact aE.ao|exact aE.al|refine aN.cells ?_ ?_|refine aN.bF ?_ ?_|refine cg.cons ?_ ?_|exact (rfl:known _=_)|exact (rfl:aF _=true)|with_reducible rfl|omega)
  intro i hi;obtain ⟨hi,hno⟩:=hi;have hsec:(i:Int)<st.length-ov->0<=(st.getD (i:Int).toNat { sec:=0,dir:=0 }).sec/\(st.getD (i:Int).toNat { sec:=0,dir:=0 }).sec<L.secs.length:=fun h=>by
   obtain ⟨x,y,_⟩:=dE (dY (i:=i) hr4 (by omega));exact ⟨x,y⟩
  repeat' (first|with_reducible (first|exact BQ|exact VQ|refine ab ?_ ?_|exact True.intro|exact bu.nil _|refine DQ ?_|fail)|((with_reducible apply bH);intro hbq;(try simp only[bq] at hbq);(try (exfalso;omega)))|refine RQ ?_|omega)
  ·rw[Jr hc hb' (yy (i:=i) (by have:=htl;simp only at this;omega) (by rw[vU hr (by simp only;omega)];unfold tight fP;simpa using hbq))];rfl
  ·
   refine az (i+1) ?_ (⟨by omega,bR hno (by unfold tight fP;simpa using hbq)⟩) (by (try dsimp only);omega);refine WQ ?_ ?_<;>repeat' (first|with_reducible (first|refine KQ ?_|refine ab ?_ ?_|exact True.intro)|refine ax rfl ?_ ?_|exact aE.ah|exact aE.ao|exact aE.al|refine aN.cells ?_ ?_|refine aN.bF ?_ ?_|refine cg.cons ?_ ?_|exact (rfl:known _=_)|exact (rfl:aF _=true)|with_reducible rfl|omega)
  ·rw[Jq hc hb' (yz fun j hj=>by rw[vU hr (by simp only at htl⊢;omega)];exact hno j (by simp only at htl;omega))];rfl
 ·rw[NN hc]
  unfold bK at hC⊢;refine FQ Tryz.func115 ?_;simp only[cu,Nat.zero_add,Nat.reduceAdd]
  repeat' (first|with_reducible (first|refine ab ?_ ?_|exact True.intro|exact bu.nil _|refine DQ ?_|fail)|((with_reducible apply aC);refine an (hC) rfl ?_)|((with_reducible apply bH);intro hbq;(try simp only[bq] at hbq);(try (exfalso;omega)))|refine RQ ?_|fail)
  ·rfl
end Go.Proofs.YtjkeeocnekggfaaGreat.Av
