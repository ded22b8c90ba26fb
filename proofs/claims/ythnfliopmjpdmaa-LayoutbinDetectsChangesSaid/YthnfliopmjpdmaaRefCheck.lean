/- Contract of Check of the reference of layouts. -/
import Derived.Test.YthnfliopmjpdmaaRefLinkErr
import Derived.Test.YthnfliopmjpdmaaCheck
namespace Go.Proofs.Ythnfliopmjpdmaa
open Go.RowKit
set_option linter.unusedVariables false

theorem namesErr_cons (seen : List ByteArray) (s : ByteArray) (r : List ByteArray) : namesErr seen (s :: r) = if nameErr seen s = 0 then namesErr (seen ++ [s]) r else nameErr seen s := rfl
theorem linksErr_cons (n p : Nat) (prev : List Lnk) (k : Lnk) (r : List Lnk) : linksErr n p prev (k :: r) = if linkErr n p prev k = 0 then linksErr n p (prev ++ [k]) r else linkErr n p prev k := rfl

theorem map_at {secs : List Sec} {ns : List ByteArray} (h : secs.map Sec.nm = ns) {m : Nat} (h1 : m < secs.length) (h2 : m < ns.length) : ns[m] = secs[m].nm := by subst h; simp

set_option maxHeartbeats 2000000 in
set_option maxRecDepth 100000 in
theorem refCheckLay_any (V : LayV) (L : Lay) (w : World) (hR : RdLay w V L) :
    Calls Try.prog 27 #[.agg #[.slice V.A1 L.sts.length V.c1, .slice V.A2 L.pts.length V.c2, .slice V.A3 L.secs.length V.c3, .slice V.A4 L.lnks.length V.c4]] w fun e w' => e = .returned (.int .i64 (layErr L)) ∧ Below w.heap.size w w' := by
  obtain ⟨A1, c1, A2, c2, A3, c3, A4, c4⟩ := V
  dsimp only
  have i1 : L.sts.length ≤ 9223372036854775807 := hR.m1
  have i2 : L.pts.length ≤ 9223372036854775807 := hR.m2
  have i3 : L.secs.length ≤ 9223372036854775807 := hR.m3
  have i4 : L.lnks.length ≤ 9223372036854775807 := hR.m4
  obtain ⟨R, HE⟩ : ∃ R, Hid (layErr L = R) := ⟨_, Lib.hid rfl⟩
  rw [HE.out]
  have Hb0 : Hid (Below w.heap.size w (w.alloc (.cells #[.slice A1 L.sts.length c1, .slice A2 L.pts.length c2, .slice A3 L.secs.length c3, .slice A4 L.lnks.length c4] 29))) := Lib.hid ((Below.refl _ _).alloc (Nat.le_refl _) _)
  by_cases h1 : 24 < L.sts.length
  · have HF : Hid (R = 7) := Lib.hid (by rw [← HE.out]; exact layErr_full (.inl h1))
    go_enter Try.func27, Try.ntmps27
    go_wp2
    go_ret
    exact ⟨ret_int HF.out.symm, Hb0.out⟩
  have d1 : decide ((24 : Int) < (L.sts.length : Int)) = false := by simp; omega
  by_cases h2 : 48 < L.pts.length
  · have HF : Hid (R = 7) := Lib.hid (by rw [← HE.out]; exact layErr_full (.inr (.inl h2)))
    go_enter Try.func27, Try.ntmps27
    go_wp2
    go_ret
    exact ⟨ret_int HF.out.symm, Hb0.out⟩
  have d2 : decide ((48 : Int) < (L.pts.length : Int)) = false := by simp; omega
  by_cases h3 : 96 < L.secs.length
  · have HF : Hid (R = 7) := Lib.hid (by rw [← HE.out]; exact layErr_full (.inr (.inr (.inl h3))))
    go_enter Try.func27, Try.ntmps27
    go_wp2
    go_ret
    exact ⟨ret_int HF.out.symm, Hb0.out⟩
  have d3 : decide ((96 : Int) < (L.secs.length : Int)) = false := by simp; omega
  by_cases h4 : 192 < L.lnks.length
  · have HF : Hid (R = 7) := Lib.hid (by rw [← HE.out]; exact layErr_full (.inr (.inr (.inr h4))))
    go_enter Try.func27, Try.ntmps27
    go_wp2
    go_ret
    exact ⟨ret_int HF.out.symm, Hb0.out⟩
  have d4 : decide ((192 : Int) < (L.lnks.length : Int)) = false := by simp; omega
  by_cases h5 : L.secs.length = 0
  · have HF : Hid (R = 1) := Lib.hid (by rw [← HE.out]; exact layErr_none (by omega) h5)
    have d5 : ((L.secs.length : Int) == 0) = true := by rw [h5]; rfl
    clear h5
    go_enter Try.func27, Try.ntmps27
    go_wp2
    go_ret
    exact ⟨ret_int HF.out.symm, Hb0.out⟩
  have d5 : ((L.secs.length : Int) == 0) = false := by rw [beq_eq_false_iff_ne]; omega
  have HR1 : Hid (orErr (namesErr [] L.sts) (rest1 L) = R) := Lib.hid (by rw [← HE.out]; exact (layErr_go (by omega) h5).symm)
  have HB0 := Lib.hid (BoxV.new w [.slice A1 L.sts.length c1, .slice A2 L.pts.length c2, .slice A3 L.secs.length c3, .slice A4 L.lnks.length c4] 29)
  have HR0 := Lib.hid (hR.below Hb0.out)
  have n1 : L.sts.length ≤ 24 := by omega
  have n2 : L.pts.length ≤ 48 := by omega
  have n3 : L.secs.length ≤ 96 := by omega
  have n4 : L.lnks.length ≤ 192 := by omega
  have n5 : 1 ≤ L.secs.length := by omega
  clear h1 h2 h3 h4 h5 hR HE
  obtain ⟨E1, HE1⟩ : ∃ E, Hid (namesErr [] L.sts = E) := ⟨_, Lib.hid rfl⟩
  obtain ⟨E2, HE2⟩ : ∃ E, Hid (namesErr [] L.pts = E) := ⟨_, Lib.hid rfl⟩
  obtain ⟨E3, HE3⟩ : ∃ E, Hid (secsErr L.sts.length [] L.secs = E) := ⟨_, Lib.hid rfl⟩
  obtain ⟨E4, HE4⟩ : ∃ E, Hid (linksErr L.secs.length L.pts.length [] L.lnks = E) := ⟨_, Lib.hid rfl⟩
  have HRR : Hid (orErr E1 (orErr E2 (orErr E3 E4)) = R) := Lib.hid (by rw [← HR1.out]; unfold rest1 rest2; rw [HE1.out, HE2.out, HE3.out, HE4.out])
  clear HR1
  go_enter Try.func27, Try.ntmps27
  go_upto_region 5 with fail
  clear d1 d2 d3 d4 d5
  generalize w.alloc (.cells #[.slice A1 L.sts.length c1, .slice A2 L.pts.length c2, .slice A3 L.secs.length c3, .slice A4 L.lnks.length c4] 29) = w0 at *
  go_wp2
  go_loopw [3] (fun i wr => ∃ m : Nat, m ≤ L.sts.length ∧ i = .int .i64 m ∧ Hid (namesErr (L.sts.take m) (L.sts.drop m) = E1) ∧ Hid (Below w0.heap.size w0 wr)) (fun i _ => L.sts.length - (intOf i).toNat)
  case atStart => exact ⟨0, by omega, rfl, Lib.hid (by simpa using HE1.out), Lib.hid (Below.refl _ _)⟩
  case round =>
    obtain ⟨m, hm, rfl, HEm, Hbm⟩ := hrel
    have HB := Lib.hid (HB0.out.below Hbm.out)
    have sf := HB.out.2 0 _ rfl
    have s5 := HB.out.1
    by_cases hlt : m < L.sts.length
    · obtain ⟨s, Hs⟩ : ∃ s, Hid (L.sts[m] = s) := ⟨_, Lib.hid rfl⟩
      have HEm' : Hid (namesErr (L.sts.take m) (s :: L.sts.drop (m + 1)) = E1) := Lib.hid (by rw [← Hs.out, ← List.drop_eq_getElem_cons hlt]; exact HEm.out)
      have Htk : Hid (L.sts.take (m + 1) = L.sts.take m ++ [s]) := Lib.hid (by rw [List.take_succ_eq_append_getElem hlt, Hs.out])
      obtain ⟨z, Hz⟩ : ∃ z, Hid (nameErr (L.sts.take m) s = z) := ⟨_, Lib.hid rfl⟩
      go_wp2_with fail
      refine (refNames_any A1 c1 L.sts m _ (HR0.out.below Hbm.out).r1 HR0.out.s1 (by omega) hlt).mono ?_
      rintro e w2 ⟨rfl, hb2⟩
      rw [Hs.out, Hz.out]
      have Hb2 := Lib.hid (Hbm.out.trans (hb2.mono Hbm.out.size))
      clear hb2 sf s5 HB
      by_cases hz : z = 0
      · subst hz
        have HE2 : Hid (namesErr (L.sts.take (m + 1)) (L.sts.drop (m + 1)) = E1) := Lib.hid (by rw [Htk.out, ← HEm'.out, namesErr_cons, if_pos Hz.out])
        go_wp2
        go_roundw
        case rel => exact ⟨m + 1, by omega, by go_num, HE2, Hb2⟩
        case measure => simp [intOf]; omega
      · have hzb : (z != 0) = true := by simpa using hz
        have HF : Hid (R = z) := Lib.hid (by
          have h1 : E1 = z := by rw [← HEm'.out, namesErr_cons, Hz.out, if_neg hz]
          rw [← HRR.out, h1]; unfold orErr; rw [if_neg hz])
        clear hz
        go_wp2
        go_ret
        exact ⟨ret_int HF.out.symm, Hb0.out.trans (Hb2.out.mono Hb0.out.size)⟩
    · have h1 : E1 = 0 := by rw [← HEm.out, List.drop_of_length_le (by omega)]; rfl
      have HRR := Lib.hid (show orErr E2 (orErr E3 E4) = R by have := HRR.out; rw [h1] at this; exact this)
      clear h1
      go_wp2
      go_loopw [5] (fun i wr => ∃ m : Nat, m ≤ L.pts.length ∧ i = .int .i64 m ∧ Hid (namesErr (L.pts.take m) (L.pts.drop m) = E2) ∧ Hid (Below w0.heap.size w0 wr)) (fun i _ => L.pts.length - (intOf i).toNat)
      case atStart => exact ⟨0, by omega, rfl, Lib.hid (by simpa using HE2.out), Hbm⟩
      case round =>
        obtain ⟨m, hm, rfl, HEm, Hbm⟩ := hrel
        have HB := Lib.hid (HB0.out.below Hbm.out)
        have sf := HB.out.2 1 _ rfl
        have s5 := HB.out.1
        by_cases hlt : m < L.pts.length
        · obtain ⟨s, Hs⟩ : ∃ s, Hid (L.pts[m] = s) := ⟨_, Lib.hid rfl⟩
          have HEm' : Hid (namesErr (L.pts.take m) (s :: L.pts.drop (m + 1)) = E2) := Lib.hid (by rw [← Hs.out, ← List.drop_eq_getElem_cons hlt]; exact HEm.out)
          have Htk : Hid (L.pts.take (m + 1) = L.pts.take m ++ [s]) := Lib.hid (by rw [List.take_succ_eq_append_getElem hlt, Hs.out])
          obtain ⟨z, Hz⟩ : ∃ z, Hid (nameErr (L.pts.take m) s = z) := ⟨_, Lib.hid rfl⟩
          go_wp2_with fail
          refine (refNames_any A2 c2 L.pts m _ (HR0.out.below Hbm.out).r2 HR0.out.s2 (by omega) hlt).mono ?_
          rintro e w2 ⟨rfl, hb2⟩
          rw [Hs.out, Hz.out]
          have Hb2 := Lib.hid (Hbm.out.trans (hb2.mono Hbm.out.size))
          clear hb2 sf s5 HB
          by_cases hz : z = 0
          · subst hz
            have HE2 : Hid (namesErr (L.pts.take (m + 1)) (L.pts.drop (m + 1)) = E2) := Lib.hid (by rw [Htk.out, ← HEm'.out, namesErr_cons, if_pos Hz.out])
            go_wp2
            go_roundw
            case rel => exact ⟨m + 1, by omega, by go_num, HE2, Hb2⟩
            case measure => simp [intOf]; omega
          · have hzb : (z != 0) = true := by simpa using hz
            have HF : Hid (R = z) := Lib.hid (by
              have h1 : E2 = z := by rw [← HEm'.out, namesErr_cons, Hz.out, if_neg hz]
              rw [← HRR.out, h1]; unfold orErr; rw [if_neg hz])
            clear hz
            go_wp2
            go_ret
            exact ⟨ret_int HF.out.symm, Hb0.out.trans (Hb2.out.mono Hb0.out.size)⟩
        · have h1 : E2 = 0 := by rw [← HEm.out, List.drop_of_length_le (by omega)]; rfl
          have HRR := Lib.hid (show orErr E3 E4 = R by have := HRR.out; rw [h1] at this; exact this)
          clear h1
          have s0 := HB.out.2 0 _ rfl
          have s1 := HB.out.2 1 _ rfl
          have s2 := HB.out.2 2 _ rfl
          have s3 := HB.out.2 3 _ rfl
          go_wp2_with fail
          refine (sectionNames_any ⟨A1, c1, A2, c2, A3, c3, A4, c4⟩ L _ (HR0.out.below Hbm.out) (by omega)).mono ?_
          rintro e w3 ⟨An, cn, rfl, hown, hb3⟩
          have HN := Lib.hid (hown.rd strF_len)
          have Hb3 := Lib.hid (Hbm.out.trans (hb3.mono Hbm.out.size))
          have HSn : Hid (Short (L.secs.map Sec.nm)) := Lib.hid HR0.out.s3
          clear hown hb3 s0 s1 s2 s3 HB Hbm
          obtain ⟨ns, Hns⟩ : ∃ ns, Hid (L.secs.map Sec.nm = ns) := ⟨_, Lib.hid rfl⟩
          have hnl : ns.length = L.secs.length := by rw [← Hns.out, List.length_map]
          have Hnl := Lib.hid hnl
          rw [Hns.out] at HN HSn ⊢
          clear hnl
          go_wp2
          go_loopw [8] (fun i wr => ∃ m : Nat, m ≤ L.secs.length ∧ i = .int .i64 m ∧ Hid (secsErr L.sts.length (ns.take m) (L.secs.drop m) = E3) ∧ Hid (RdF 1 strF wr An ns) ∧ Hid (Below w0.heap.size w0 wr)) (fun i _ => L.secs.length - (intOf i).toNat)
          case atStart => exact ⟨0, by omega, rfl, Lib.hid (by simpa using HE3.out), HN, Hb3⟩
          case round =>
            obtain ⟨m, hm, rfl, HEm, HNm, Hbm⟩ := hrel
            have HB := Lib.hid (HB0.out.below Hbm.out)
            have sf := HB.out.2 2 _ rfl
            have s5 := HB.out.1
            by_cases hlt : m < L.secs.length
            · obtain ⟨s, Hs⟩ : ∃ s, Hid (L.secs[m] = s) := ⟨_, Lib.hid rfl⟩
              have hmn : m < ns.length := by rw [Hnl.out]; exact hlt
              have Hsn : Hid (ns[m] = s.nm) := Lib.hid (by rw [map_at Hns.out hlt hmn, Hs.out])
              have HEm' : Hid (secsErr L.sts.length (ns.take m) (s :: L.secs.drop (m + 1)) = E3) := Lib.hid (by rw [← Hs.out, ← List.drop_eq_getElem_cons hlt]; exact HEm.out)
              have Htk : Hid (ns.take (m + 1) = ns.take m ++ [s.nm]) := Lib.hid (by rw [List.take_succ_eq_append_getElem hmn, Hsn.out])
              obtain ⟨z, Hz⟩ : ∃ z, Hid (nameErr (ns.take m) s.nm = z) := ⟨_, Lib.hid rfl⟩
              obtain ⟨nl, Hnl2⟩ : ∃ nl, Hid (ns.length = nl) := ⟨_, Lib.hid rfl⟩
              go_wp2_with fail
              refine (refNames_any An cn ns m _ HNm.out HSn.out (by rw [Hnl.out]; omega) hmn).mono ?_
              rintro e w2 ⟨rfl, hb2⟩
              rw [Hsn.out, Hz.out]
              have Hb2 := Lib.hid (Hbm.out.trans (hb2.mono Hbm.out.size))
              have HN2 := Lib.hid (HNm.out.below hb2)
              clear hb2 sf s5 HB HNm
              by_cases hz : z = 0
              · subst hz
                obtain ⟨bs, os, hA, hbl, hc⟩ := (HR0.out.below Hb2.out).r3 m hlt
                obtain rfl : A3 = some ⟨bs, os, none⟩ := hA
                rw [Hs.out] at hc
                have q0 := hc 0 _ rfl
                have q1 := hc 1 _ rfl
                have q2 := hc 2 _ rfl
                have q3 := hc 3 _ rfl
                have q4 := hc 4 _ rfl
                rw [Nat.add_zero] at q0
                have HB := Lib.hid (HB0.out.below Hb2.out)
                have s0 := HB.out.2 0 _ rfl
                have s2 := HB.out.2 2 _ rfl
                have s5 := HB.out.1
                have Hb4 : Hid (Below w0.heap.size w0 (w2.alloc (.cells #[.string s.nm, .int .i64 s.len, .int .i64 s.lim, .int .i64 s.grd, .int .i64 s.stn] 56))) := Lib.hid (Hb2.out.alloc Hb2.out.size _)
                have HN4 : Hid (RdF 1 strF (w2.alloc (.cells #[.string s.nm, .int .i64 s.len, .int .i64 s.lim, .int .i64 s.grd, .int .i64 s.stn] 56)) An ns) := Lib.hid (HN2.out.below ((Below.refl _ _).alloc (Nat.le_refl _) _))
                clear hc
                cases hin : secB L.sts.length s
                · have HF : Hid (R = 4) := Lib.hid (by
                    have h1 : E3 = 4 := by rw [← HEm'.out, secsErr_cons, if_pos Hz.out, if_neg (by rw [hin]; decide)]
                    rw [← HRR.out, h1]; rfl)
                  have hno : ¬ (1 ≤ s.len ∧ s.len ≤ 400 ∧ 1000 ≤ s.lim ∧ s.lim ≤ 100000 ∧ -40 ≤ s.grd ∧ s.grd ≤ 40 ∧ -1 ≤ s.stn ∧ s.stn < L.sts.length) := by simpa [secB] using hin
                  have Hno := Lib.hid hno
                  clear hin hno
                  by_cases h0 : 1 ≤ s.len ∧ s.len ≤ 400
                  rotate_left
                  · have I1 := Lib.hid (inB_false h0)
                    clear h0
                    go_wp2_with (go_at_call 48; refine (refIn_any _ _ _ _).mono ?_; rintro e w' ⟨rfl, rfl⟩; first | rw [I1.out])
                    go_ret
                    exact ⟨ret_int HF.out.symm, Hb0.out.trans (Hb4.out.mono Hb0.out.size)⟩
                  have I1 := Lib.hid (inB_true h0.1 h0.2)
                  by_cases h1 : 1000 ≤ s.lim ∧ s.lim ≤ 100000
                  rotate_left
                  · have I2 := Lib.hid (inB_false h1)
                    clear h1
                    go_wp2_with (go_at_call 48; refine (refIn_any _ _ _ _).mono ?_; rintro e w' ⟨rfl, rfl⟩; first | rw [I1.out] | rw [I2.out])
                    go_ret
                    exact ⟨ret_int HF.out.symm, Hb0.out.trans (Hb4.out.mono Hb0.out.size)⟩
                  have I2 := Lib.hid (inB_true h1.1 h1.2)
                  by_cases h2 : -40 ≤ s.grd ∧ s.grd ≤ 40
                  rotate_left
                  · have I3 := Lib.hid (inB_false h2)
                    clear h2
                    go_wp2_with (go_at_call 48; refine (refIn_any _ _ _ _).mono ?_; rintro e w' ⟨rfl, rfl⟩; first | rw [I1.out] | rw [I2.out] | rw [I3.out])
                    go_ret
                    exact ⟨ret_int HF.out.symm, Hb0.out.trans (Hb4.out.mono Hb0.out.size)⟩
                  have I3 := Lib.hid (inB_true h2.1 h2.2)
                  have I4 := Lib.hid (inB_false (n := s.stn) (lo := -1) (hi := (L.sts.length : Int) - 1) (by have := Hno.out; omega))
                  clear h0 h1 h2
                  go_wp2_with (go_at_call 48; refine (refIn_any _ _ _ _).mono ?_; rintro e w' ⟨rfl, rfl⟩; first | rw [I1.out] | rw [I2.out] | rw [I3.out] | rw [I4.out])
                  go_ret
                  exact ⟨ret_int HF.out.symm, Hb0.out.trans (Hb4.out.mono Hb0.out.size)⟩
                · have HE2 : Hid (secsErr L.sts.length (ns.take (m + 1)) (L.secs.drop (m + 1)) = E3) := Lib.hid (by rw [Htk.out, ← HEm'.out, secsErr_cons, if_pos Hz.out, if_pos hin])
                  obtain ⟨k1, k2, k3, k4, k5, k6, k7, k8⟩ := secB_of hin
                  have I1 := Lib.hid (inB_true k1 k2)
                  have I2 := Lib.hid (inB_true k3 k4)
                  have I3 := Lib.hid (inB_true k5 k6)
                  have I4 := Lib.hid (inB_true (n := s.stn) (lo := -1) (hi := (L.sts.length : Int) - 1) k7 (by omega))
                  clear hin k1 k2 k3 k4 k5 k6 k7 k8
                  go_wp2_with (go_at_call 48; refine (refIn_any _ _ _ _).mono ?_; rintro e w' ⟨rfl, rfl⟩; first | rw [I1.out] | rw [I2.out] | rw [I3.out] | rw [I4.out])
                  go_roundw
                  case rel => exact ⟨m + 1, by omega, by go_num, HE2, HN4, Hb4⟩
                  case measure => simp [intOf]; omega
              · have hzb : (z != 0) = true := by simpa using hz
                have HF : Hid (R = z) := Lib.hid (by
                  have h1 : E3 = z := by rw [← HEm'.out, secsErr_cons, Hz.out, if_neg hz]
                  rw [← HRR.out, h1]; unfold orErr; rw [if_neg hz])
                clear hz
                go_wp2
                go_ret
                exact ⟨ret_int HF.out.symm, Hb0.out.trans (Hb2.out.mono Hb0.out.size)⟩
            · have h1 : E3 = 0 := by rw [← HEm.out, List.drop_of_length_le (by omega)]; rfl
              have HRR := Lib.hid (show E4 = R by have := HRR.out; rw [h1] at this; exact this)
              clear h1 HNm
              go_wp2
              go_loopw [11] (fun i wr => ∃ m : Nat, m ≤ L.lnks.length ∧ i = .int .i64 m ∧ Hid (linksErr L.secs.length L.pts.length (L.lnks.take m) (L.lnks.drop m) = E4) ∧ Hid (Below w0.heap.size w0 wr)) (fun i _ => L.lnks.length - (intOf i).toNat)
              case atStart => exact ⟨0, by omega, rfl, Lib.hid (by simpa using HE4.out), Hbm⟩
              case round =>
                obtain ⟨m, hm, rfl, HEm, Hbm⟩ := hrel
                have HB := Lib.hid (HB0.out.below Hbm.out)
                have s0 := HB.out.2 0 _ rfl
                have s1 := HB.out.2 1 _ rfl
                have s2 := HB.out.2 2 _ rfl
                have s3 := HB.out.2 3 _ rfl
                have s5 := HB.out.1
                by_cases hlt : m < L.lnks.length
                · obtain ⟨s, Hs⟩ : ∃ s, Hid (L.lnks[m] = s) := ⟨_, Lib.hid rfl⟩
                  have HEm' : Hid (linksErr L.secs.length L.pts.length (L.lnks.take m) (s :: L.lnks.drop (m + 1)) = E4) := Lib.hid (by rw [← Hs.out, ← List.drop_eq_getElem_cons hlt]; exact HEm.out)
                  have Htk : Hid (L.lnks.take (m + 1) = L.lnks.take m ++ [s]) := Lib.hid (by rw [List.take_succ_eq_append_getElem hlt, Hs.out])
                  obtain ⟨z, Hz⟩ : ∃ z, Hid (linkErr L.secs.length L.pts.length (L.lnks.take m) s = z) := ⟨_, Lib.hid rfl⟩
                  go_wp2_with fail
                  refine (refLinkError_any ⟨A1, c1, A2, c2, A3, c3, A4, c4⟩ L m _ (HR0.out.below Hbm.out) (by omega) (by omega) (by omega) hlt).mono ?_
                  rintro e w2 ⟨rfl, hb2⟩
                  rw [Hs.out, Hz.out]
                  have Hb2 := Lib.hid (Hbm.out.trans (hb2.mono Hbm.out.size))
                  clear hb2 s0 s1 s2 s3 s5 HB
                  by_cases hz : z = 0
                  · subst hz
                    have HE2 : Hid (linksErr L.secs.length L.pts.length (L.lnks.take (m + 1)) (L.lnks.drop (m + 1)) = E4) := Lib.hid (by rw [Htk.out, ← HEm'.out, linksErr_cons, if_pos Hz.out])
                    go_wp2
                    go_roundw
                    case rel => exact ⟨m + 1, by omega, by go_num, HE2, Hb2⟩
                    case measure => simp [intOf]; omega
                  · have hzb : (z != 0) = true := by simpa using hz
                    have HF : Hid (R = z) := Lib.hid (by rw [← HRR.out, ← HEm'.out, linksErr_cons, Hz.out, if_neg hz])
                    clear hz
                    go_wp2
                    go_ret
                    exact ⟨ret_int HF.out.symm, Hb0.out.trans (Hb2.out.mono Hb0.out.size)⟩
                · have HF : Hid (R = 0) := Lib.hid (by rw [← HRR.out, ← HEm.out, List.drop_of_length_le (by omega)]; rfl)
                  go_wp2
                  go_ret
                  exact ⟨ret_int HF.out.symm, Hb0.out.trans (Hbm.out.mono Hb0.out.size)⟩
end Go.Proofs.Ythnfliopmjpdmaa
