/- Contract of layout.Check. -/
import Derived.Test.YthnfliopmjpdmaaCkLinks
import Derived.Test.YthnfliopmjpdmaaSeen
namespace Go.Proofs.Ythnfliopmjpdmaa
open Go.RowKit
set_option linter.unusedVariables false

theorem index_pair0 (x y : Value) (w : World) : (Instr.index 53 (.agg #[x, y]) (.int .i64 0)).run Try.prog w = .ok x w := by kernel_rfl
theorem index_pair1 (x y : Value) (w : World) : (Instr.index 53 (.agg #[x, y]) (.int .i64 1)).run Try.prog w = .ok y w := by kernel_rfl

def rest2 (L : Lay) : Int := orErr (secsErr L.sts.length [] L.secs) (linksErr L.secs.length L.pts.length [] L.lnks)
def rest1 (L : Lay) : Int := orErr (namesErr [] L.pts) (rest2 L)
theorem layErr_full {L : Lay} (h : 24 < L.sts.length ∨ 48 < L.pts.length ∨ 96 < L.secs.length ∨ 192 < L.lnks.length) : layErr L = 7 := if_pos h
theorem layErr_none {L : Lay} (h : ¬ (24 < L.sts.length ∨ 48 < L.pts.length ∨ 96 < L.secs.length ∨ 192 < L.lnks.length)) (h0 : L.secs.length = 0) : layErr L = 1 := by
  unfold layErr; rw [if_neg h, if_pos h0]
theorem layErr_go {L : Lay} (h : ¬ (24 < L.sts.length ∨ 48 < L.pts.length ∨ 96 < L.secs.length ∨ 192 < L.lnks.length)) (h0 : L.secs.length ≠ 0) : layErr L = orErr (namesErr [] L.sts) (rest1 L) := by
  unfold layErr; rw [if_neg h, if_neg h0]; rfl

theorem secsErr_cons (nst : Nat) (seen : List ByteArray) (s : Sec) (r : List Sec) : secsErr nst seen (s :: r) = if nameErr seen s.nm = 0 then (if secB nst s = true then secsErr nst (seen ++ [s.nm]) r else 4) else nameErr seen s.nm := rfl

set_option maxHeartbeats 1000000 in
set_option maxRecDepth 100000 in
theorem layCheck_any (V : LayV) (L : Lay) (w : World) (hR : RdLay w V L) :
    Calls Try.prog 22 #[.agg #[.slice V.A1 L.sts.length V.c1, .slice V.A2 L.pts.length V.c2, .slice V.A3 L.secs.length V.c3, .slice V.A4 L.lnks.length V.c4]] w fun e w' => e = .returned (.int .i64 (layErr L)) ∧ Below w.heap.size w w' := by
  obtain ⟨A1, c1, A2, c2, A3, c3, A4, c4⟩ := V
  dsimp only
  have i1 : L.sts.length ≤ 9223372036854775807 := hR.m1
  have i2 : L.pts.length ≤ 9223372036854775807 := hR.m2
  have i3 : L.secs.length ≤ 9223372036854775807 := hR.m3
  have i4 : L.lnks.length ≤ 9223372036854775807 := hR.m4
  obtain ⟨R, HE⟩ : ∃ R, Hid (layErr L = R) := ⟨_, Lib.hid rfl⟩
  rw [HE.out]
  have Hb0 : Hid (Below w.heap.size w (w.alloc (.cells #[.slice A1 L.sts.length c1, .slice A2 L.pts.length c2, .slice A3 L.secs.length c3, .slice A4 L.lnks.length c4] 29))) := Lib.hid ((Below.refl _ _).alloc (Nat.le_refl _) _)
  by_cases h1 : 24 < L.sts.length
  · have HF : Hid (R = 7) := Lib.hid (by rw [← HE.out]; exact layErr_full (.inl h1))
    go_enter Try.func22, Try.ntmps22
    go_wp2
    go_ret
    exact ⟨ret_int HF.out.symm, Hb0.out⟩
  have d1 : decide ((24 : Int) < (L.sts.length : Int)) = false := by simp; omega
  by_cases h2 : 48 < L.pts.length
  · have HF : Hid (R = 7) := Lib.hid (by rw [← HE.out]; exact layErr_full (.inr (.inl h2)))
    go_enter Try.func22, Try.ntmps22
    go_wp2
    go_ret
    exact ⟨ret_int HF.out.symm, Hb0.out⟩
  have d2 : decide ((48 : Int) < (L.pts.length : Int)) = false := by simp; omega
  by_cases h3 : 96 < L.secs.length
  · have HF : Hid (R = 7) := Lib.hid (by rw [← HE.out]; exact layErr_full (.inr (.inr (.inl h3))))
    go_enter Try.func22, Try.ntmps22
    go_wp2
    go_ret
    exact ⟨ret_int HF.out.symm, Hb0.out⟩
  have d3 : decide ((96 : Int) < (L.secs.length : Int)) = false := by simp; omega
  by_cases h4 : 192 < L.lnks.length
  · have HF : Hid (R = 7) := Lib.hid (by rw [← HE.out]; exact layErr_full (.inr (.inr (.inr h4))))
    go_enter Try.func22, Try.ntmps22
    go_wp2
    go_ret
    exact ⟨ret_int HF.out.symm, Hb0.out⟩
  have d4 : decide ((192 : Int) < (L.lnks.length : Int)) = false := by simp; omega
  by_cases h5 : L.secs.length = 0
  · have HF : Hid (R = 1) := Lib.hid (by rw [← HE.out]; exact layErr_none (by omega) h5)
    have d5 : ((L.secs.length : Int) == 0) = true := by rw [h5]; rfl
    clear h5
    go_enter Try.func22, Try.ntmps22
    go_wp2
    go_ret
    exact ⟨ret_int HF.out.symm, Hb0.out⟩
  have d5 : ((L.secs.length : Int) == 0) = false := by rw [beq_eq_false_iff_ne]; omega
  have HR1 : Hid (orErr (namesErr [] L.sts) (rest1 L) = R) := Lib.hid (by rw [← HE.out]; exact (layErr_go (by omega) h5).symm)
  have HB0 := Lib.hid (BoxV.new w [.slice A1 L.sts.length c1, .slice A2 L.pts.length c2, .slice A3 L.secs.length c3, .slice A4 L.lnks.length c4] 29)
  have HR0 := Lib.hid (hR.below Hb0.out)
  have hmm := @run_makeMap Try.prog
  have hix := index_pair0
  have hix1 := index_pair1
  have n1 : L.sts.length ≤ 24 := by omega
  have n2 : L.pts.length ≤ 48 := by omega
  have n3 : L.secs.length ≤ 96 := by omega
  have n4 : L.lnks.length ≤ 192 := by omega
  have n5 : 1 ≤ L.secs.length := by omega
  clear h1 h2 h3 h4 h5 hR HE
  go_enter Try.func22, Try.ntmps22
  go_wp2
  clear d1 d2 d3 d4 d5
  generalize w.alloc (.cells #[.slice A1 L.sts.length c1, .slice A2 L.pts.length c2, .slice A3 L.secs.length c3, .slice A4 L.lnks.length c4] 29) = w0 at *
  go_loopw [40] (fun i wr => ∃ k : Nat, k ≤ 2 ∧ i = .int .i64 k ∧ Hid ((if k = 0 then orErr (namesErr [] L.sts) (rest1 L) else if k = 1 then rest1 L else rest2 L) = R) ∧ Hid (Below w0.heap.size w0 wr)) (fun i _ => 2 - (intOf i).toNat)
  case atStart => exact ⟨0, by omega, rfl, Lib.hid (by simpa using HR1.out), Lib.hid (Below.refl _ _)⟩
  case round =>
    obtain ⟨k, hk, rfl, HRk, Hbr⟩ := hrel
    obtain ⟨wo, rfl⟩ : ∃ wo : World, wo = wr := ⟨_, rfl⟩
    rcases (show k = 0 ∨ k = 1 ∨ k = 2 by omega) with rfl | rfl | rfl
    · rw [show ((0 : Nat) : Int) = 0 from rfl]
      have HM := Lib.hid (SeenM.new wo)
      have Hb1 : Hid (Below w0.heap.size w0 (wo.alloc (.map #[] 0))) := Lib.hid (Hbr.out.alloc Hbr.out.size _)
      have Hbq : Hid (w0.heap.size ≤ wo.heap.size) := Lib.hid Hbr.out.size
      have HRk' : Hid (orErr (namesErr [] L.sts) (rest1 L) = R) := Lib.hid (by have := HRk.out; simpa [rest1] using this)
      obtain ⟨E, HE⟩ : ∃ E, Hid (namesErr [] L.sts = E) := ⟨_, Lib.hid rfl⟩
      rw [HE.out] at HRk'
      clear HRk
      go_wp2
      obtain ⟨bq, hbq⟩ : ∃ bq, wo.heap.size = bq := ⟨_, rfl⟩
      rw [hbq] at HM Hbq
      rw [hbq]
      clear hbq Hbr
      generalize wo.alloc (.map #[] 0) = w1 at *
      go_loopw [46] (fun i wr => ∃ m : Nat, m ≤ L.sts.length ∧ i = .int .i64 m ∧ Hid (namesErr (L.sts.take m) (L.sts.drop m) = E) ∧ Hid (SeenM wr bq (L.sts.take m)) ∧ Hid (Below w0.heap.size w0 wr)) (fun i _ => L.sts.length - (intOf i).toNat)
      case atStart => exact ⟨0, by omega, rfl, Lib.hid (by simpa using HE.out), by simpa using HM, Hb1⟩
      case round =>
        obtain ⟨m, hm, rfl, HEm, HMm, Hbm⟩ := hrel
        clear HM Hb1
        by_cases hlt : m < L.sts.length
        · obtain ⟨bs, os, hA, hbl, hc⟩ := (HR0.out.below Hbm.out).r1 m hlt
          obtain rfl : A1 = some ⟨bs, os, none⟩ := hA
          obtain ⟨s, Hs⟩ : ∃ s, Hid (L.sts[m] = s) := ⟨_, Lib.hid rfl⟩
          have hsz : s.size ≤ maxLen := by rw [← Hs.out]; unfold maxLen; exact HR0.out.s1 _ (List.getElem_mem hlt)
          rw [Hs.out] at hc
          have q0 := hc 0 _ rfl
          rw [Nat.add_zero, Nat.mul_one] at q0
          have HEm' : Hid (namesErr (L.sts.take m) (s :: L.sts.drop (m + 1)) = E) := Lib.hid (by rw [← Hs.out, ← List.drop_eq_getElem_cons hlt]; exact HEm.out)
          have Htk : Hid (L.sts.take (m + 1) = L.sts.take m ++ [s]) := Lib.hid (by rw [List.take_succ_eq_append_getElem hlt, Hs.out])
          clear hc HEm Hs
          go_wp2_with fail
          refine (checkName_any s bq (L.sts.take m) _ hsz HMm.out (by rw [List.length_take]; unfold maxLen; omega)).mono ?_
          rintro e w2 ⟨rfl, hM2, hg2⟩
          have Hb2 : Hid (Below w0.heap.size w0 w2) := Lib.hid (Hbm.out.grown hg2 Hbm.out.size (fun q hq => by injection hq with hq; subst hq; exact Hbq.out))
          obtain ⟨z, Hz⟩ : ∃ z, Hid (nameErr (L.sts.take m) s = z) := ⟨_, Lib.hid rfl⟩
          rw [Hz.out] at hM2 ⊢
          clear hg2 q0 hbl HMm
          by_cases hz : z = 0
          · subst hz
            have HM2 : Hid (SeenM w2 bq (L.sts.take (m + 1))) := Lib.hid (by rw [Htk.out]; exact hM2 rfl)
            have HE2 : Hid (namesErr (L.sts.take (m + 1)) (L.sts.drop (m + 1)) = E) := Lib.hid (by rw [Htk.out, ← HEm'.out]; simp [namesErr, Hz.out])
            clear hM2 Hz
            go_wp2
            go_roundw
            case rel => exact ⟨m + 1, by omega, by go_num, HE2, HM2, Hb2⟩
            case measure => simp [intOf]; omega
          · have hzb : (z != 0) = true := by simpa using hz
            have HF : Hid (R = z) := Lib.hid (by
              have h1 : E = z := by rw [← HEm'.out]; simp [namesErr, Hz.out, hz]
              rw [← HRk'.out, h1]; unfold orErr; rw [if_neg hz])
            clear hM2 Hz hz
            go_wp2
            go_ret
            exact ⟨ret_int HF.out.symm, Hb0.out.trans (Hb2.out.mono Hb0.out.size)⟩
        · have HF : Hid (rest1 L = R) := Lib.hid (by
            have h1 : E = 0 := by rw [← HEm.out, List.drop_of_length_le (by omega)]; rfl
            rw [← HRk'.out, h1]; rfl)
          go_wp2
          exact ⟨⟨1, by omega, rfl, Lib.hid (by simpa using HF.out), Hbm⟩, by decide⟩
    · rw [show ((1 : Nat) : Int) = 1 from rfl]
      have HM := Lib.hid (SeenM.new wo)
      have Hb1 : Hid (Below w0.heap.size w0 (wo.alloc (.map #[] 0))) := Lib.hid (Hbr.out.alloc Hbr.out.size _)
      have Hbq : Hid (w0.heap.size ≤ wo.heap.size) := Lib.hid Hbr.out.size
      have HRk' : Hid (orErr (namesErr [] L.pts) (rest2 L) = R) := Lib.hid (by have := HRk.out; simpa [rest1] using this)
      obtain ⟨E, HE⟩ : ∃ E, Hid (namesErr [] L.pts = E) := ⟨_, Lib.hid rfl⟩
      rw [HE.out] at HRk'
      clear HRk
      go_wp2
      obtain ⟨bq, hbq⟩ : ∃ bq, wo.heap.size = bq := ⟨_, rfl⟩
      rw [hbq] at HM Hbq
      rw [hbq]
      clear hbq Hbr
      generalize wo.alloc (.map #[] 0) = w1 at *
      go_loopw [46] (fun i wr => ∃ m : Nat, m ≤ L.pts.length ∧ i = .int .i64 m ∧ Hid (namesErr (L.pts.take m) (L.pts.drop m) = E) ∧ Hid (SeenM wr bq (L.pts.take m)) ∧ Hid (Below w0.heap.size w0 wr)) (fun i _ => L.pts.length - (intOf i).toNat)
      case atStart => exact ⟨0, by omega, rfl, Lib.hid (by simpa using HE.out), by simpa using HM, Hb1⟩
      case round =>
        obtain ⟨m, hm, rfl, HEm, HMm, Hbm⟩ := hrel
        clear HM Hb1
        by_cases hlt : m < L.pts.length
        · obtain ⟨bs, os, hA, hbl, hc⟩ := (HR0.out.below Hbm.out).r2 m hlt
          obtain rfl : A2 = some ⟨bs, os, none⟩ := hA
          obtain ⟨s, Hs⟩ : ∃ s, Hid (L.pts[m] = s) := ⟨_, Lib.hid rfl⟩
          have hsz : s.size ≤ maxLen := by rw [← Hs.out]; unfold maxLen; exact HR0.out.s2 _ (List.getElem_mem hlt)
          rw [Hs.out] at hc
          have q0 := hc 0 _ rfl
          rw [Nat.add_zero, Nat.mul_one] at q0
          have HEm' : Hid (namesErr (L.pts.take m) (s :: L.pts.drop (m + 1)) = E) := Lib.hid (by rw [← Hs.out, ← List.drop_eq_getElem_cons hlt]; exact HEm.out)
          have Htk : Hid (L.pts.take (m + 1) = L.pts.take m ++ [s]) := Lib.hid (by rw [List.take_succ_eq_append_getElem hlt, Hs.out])
          clear hc HEm Hs
          go_wp2_with fail
          refine (checkName_any s bq (L.pts.take m) _ hsz HMm.out (by rw [List.length_take]; unfold maxLen; omega)).mono ?_
          rintro e w2 ⟨rfl, hM2, hg2⟩
          have Hb2 : Hid (Below w0.heap.size w0 w2) := Lib.hid (Hbm.out.grown hg2 Hbm.out.size (fun q hq => by injection hq with hq; subst hq; exact Hbq.out))
          obtain ⟨z, Hz⟩ : ∃ z, Hid (nameErr (L.pts.take m) s = z) := ⟨_, Lib.hid rfl⟩
          rw [Hz.out] at hM2 ⊢
          clear hg2 q0 hbl HMm
          by_cases hz : z = 0
          · subst hz
            have HM2 : Hid (SeenM w2 bq (L.pts.take (m + 1))) := Lib.hid (by rw [Htk.out]; exact hM2 rfl)
            have HE2 : Hid (namesErr (L.pts.take (m + 1)) (L.pts.drop (m + 1)) = E) := Lib.hid (by rw [Htk.out, ← HEm'.out]; simp [namesErr, Hz.out])
            clear hM2 Hz
            go_wp2
            go_roundw
            case rel => exact ⟨m + 1, by omega, by go_num, HE2, HM2, Hb2⟩
            case measure => simp [intOf]; omega
          · have hzb : (z != 0) = true := by simpa using hz
            have HF : Hid (R = z) := Lib.hid (by
              have h1 : E = z := by rw [← HEm'.out]; simp [namesErr, Hz.out, hz]
              rw [← HRk'.out, h1]; unfold orErr; rw [if_neg hz])
            clear hM2 Hz hz
            go_wp2
            go_ret
            exact ⟨ret_int HF.out.symm, Hb0.out.trans (Hb2.out.mono Hb0.out.size)⟩
        · have HF : Hid (rest2 L = R) := Lib.hid (by
            have h1 : E = 0 := by rw [← HEm.out, List.drop_of_length_le (by omega)]; rfl
            rw [← HRk'.out, h1]; rfl)
          go_wp2
          exact ⟨⟨2, by omega, rfl, Lib.hid (by simpa using HF.out), Hbm⟩, by decide⟩
    · have HRk' : Hid (rest2 L = R) := Lib.hid (by have := HRk.out; simpa using this)
      rw [show ((2 : Nat) : Int) = 2 from rfl]
      have HM := Lib.hid (SeenM.new wo)
      have Hb1 : Hid (Below w0.heap.size w0 (wo.alloc (.map #[] 0))) := Lib.hid (Hbr.out.alloc Hbr.out.size _)
      have Hbq : Hid (w0.heap.size ≤ wo.heap.size) := Lib.hid Hbr.out.size
      obtain ⟨E, HE⟩ : ∃ E, Hid (secsErr L.sts.length [] L.secs = E) := ⟨_, Lib.hid rfl⟩
      obtain ⟨T, HT⟩ : ∃ T, Hid (linksErr L.secs.length L.pts.length [] L.lnks = T) := ⟨_, Lib.hid rfl⟩
      have HR2 : Hid (orErr E T = R) := Lib.hid (by have := HRk'.out; unfold rest2 at this; rw [HE.out, HT.out] at this; exact this)
      have HB := Lib.hid (HB0.out.below Hbr.out)
      have s2 := HB.out.2 2 _ rfl
      have s5 := HB.out.1
      clear HRk HRk'
      go_wp2
      clear s2 s5 HB
      obtain ⟨bq, hbq⟩ : ∃ bq, wo.heap.size = bq := ⟨_, rfl⟩
      rw [hbq] at HM Hbq
      rw [hbq]
      clear hbq Hbr
      generalize wo.alloc (.map #[] 0) = w1 at *
      go_loopw [62] (fun i wr => ∃ m : Nat, m ≤ L.secs.length ∧ i = .int .i64 m ∧ Hid (secsErr L.sts.length ((L.secs.take m).map Sec.nm) (L.secs.drop m) = E) ∧ Hid (SeenM wr bq ((L.secs.take m).map Sec.nm)) ∧ Hid (Below w0.heap.size w0 wr)) (fun i _ => L.secs.length - (intOf i).toNat)
      case atStart => exact ⟨0, by omega, rfl, Lib.hid (by simpa using HE.out), by simpa using HM, Hb1⟩
      case round =>
        obtain ⟨m, hm, rfl, HEm, HMm, Hbm⟩ := hrel
        clear HM Hb1
        by_cases hlt : m < L.secs.length
        · obtain ⟨bs, os, hA, hbl, hc⟩ := (HR0.out.below Hbm.out).r3 m hlt
          obtain rfl : A3 = some ⟨bs, os, none⟩ := hA
          obtain ⟨s, Hs⟩ : ∃ s, Hid (L.secs[m] = s) := ⟨_, Lib.hid rfl⟩
          have hsz : s.nm.size ≤ maxLen := by rw [← Hs.out]; unfold maxLen; exact HR0.out.s3 _ (List.mem_map.2 ⟨_, List.getElem_mem hlt, rfl⟩)
          rw [Hs.out] at hc
          have q0 := hc 0 _ rfl
          have q1 := hc 1 _ rfl
          have q2 := hc 2 _ rfl
          have q3 := hc 3 _ rfl
          have q4 := hc 4 _ rfl
          rw [Nat.add_zero] at q0
          have HEm' : Hid (secsErr L.sts.length ((L.secs.take m).map Sec.nm) (s :: L.secs.drop (m + 1)) = E) := Lib.hid (by rw [← Hs.out, ← List.drop_eq_getElem_cons hlt]; exact HEm.out)
          have Htk : Hid ((L.secs.take (m + 1)).map Sec.nm = (L.secs.take m).map Sec.nm ++ [s.nm]) := Lib.hid (by rw [List.take_succ_eq_append_getElem hlt, Hs.out, List.map_append]; rfl)
          have hba : Below wr.heap.size wr (wr.alloc (.cells #[.string s.nm, .int .i64 s.len, .int .i64 s.lim, .int .i64 s.grd, .int .i64 s.stn] 56)) := (Below.refl _ _).alloc (Nat.le_refl _) _
          have HM1 := Lib.hid (HMm.out.of_block (hba.block _ HMm.out.lt))
          have H5 := Lib.hid (BoxV.new wr [.string s.nm, .int .i64 s.len, .int .i64 s.lim, .int .i64 s.grd, .int .i64 s.stn] 56)
          have Hb1 : Hid (Below w0.heap.size w0 (wr.alloc (.cells #[.string s.nm, .int .i64 s.len, .int .i64 s.lim, .int .i64 s.grd, .int .i64 s.stn] 56))) := Lib.hid (Hbm.out.trans (hba.mono Hbm.out.size))
          have Hpb : Hid (bq ≠ wr.heap.size) := Lib.hid (by have := HMm.out.lt; omega)
          clear hc HEm Hs hba
          go_wp2_with fail
          refine (checkName_any s.nm bq ((L.secs.take m).map Sec.nm) _ hsz HM1.out (by rw [List.length_map, List.length_take]; unfold maxLen; omega)).mono ?_
          rintro e w2 ⟨rfl, hM2, hg2⟩
          have Hb2 : Hid (Below w0.heap.size w0 w2) := Lib.hid (Hb1.out.grown hg2 Hb1.out.size (fun q hq => by injection hq with hq; subst hq; exact Hbq.out))
          have H52 := Lib.hid (H5.out.grown hg2 (fun e => Hpb.out (by injection e with e; exact e.symm)))
          obtain ⟨z, Hz⟩ : ∃ z, Hid (nameErr ((L.secs.take m).map Sec.nm) s.nm = z) := ⟨_, Lib.hid rfl⟩
          rw [Hz.out] at hM2 ⊢
          obtain ⟨p5, hp5⟩ : ∃ p5, wr.heap.size = p5 := ⟨_, rfl⟩
          rw [hp5] at H52 ⊢
          clear hg2 q0 q1 q2 q3 q4 hbl HMm HM1 H5 Hb1 Hpb hp5
          by_cases hz : z = 0
          · subst hz
            have HM2 : Hid (SeenM w2 bq ((L.secs.take (m + 1)).map Sec.nm)) := Lib.hid (by rw [Htk.out]; exact hM2 rfl)
            have HB := Lib.hid (HB0.out.below Hb2.out)
            have s0 := HB.out.2 0 _ rfl
            have s1 := HB.out.2 1 _ rfl
            have s2 := HB.out.2 2 _ rfl
            have s3 := HB.out.2 3 _ rfl
            have t0 := H52.out.2 0 _ rfl
            have t1 := H52.out.2 1 _ rfl
            have t2 := H52.out.2 2 _ rfl
            have t3 := H52.out.2 3 _ rfl
            have t4 := H52.out.2 4 _ rfl
            clear hM2
            go_wp2_with fail
            refine (sectionInRange_any ⟨A1, c1, A2, c2, some ⟨bs, os, none⟩, c3, A4, c4⟩ L s _).mono ?_
            rintro e w3 ⟨rfl, hb3⟩
            have HM3 := Lib.hid (HM2.out.of_block (hb3.block _ HM2.out.lt))
            have Hb3 := Lib.hid (Hb2.out.trans (hb3.mono Hb2.out.size))
            clear hb3 s0 s1 s2 s3 t0 t1 t2 t3 t4 HB H52 HM2
            cases hin : secB L.sts.length s
            · have HF : Hid (R = 4) := Lib.hid (by
                have h1 : E = 4 := by rw [← HEm'.out, secsErr_cons, if_pos Hz.out, if_neg (by rw [hin]; decide)]
                rw [← HR2.out, h1]; rfl)
              clear hin
              go_wp2
              go_ret
              exact ⟨ret_int HF.out.symm, Hb0.out.trans (Hb3.out.mono Hb0.out.size)⟩
            · have HE2 : Hid (secsErr L.sts.length ((L.secs.take (m + 1)).map Sec.nm) (L.secs.drop (m + 1)) = E) := Lib.hid (by rw [Htk.out, ← HEm'.out, secsErr_cons, if_pos Hz.out, if_pos hin])
              clear hin
              go_wp2
              go_roundw
              case rel => exact ⟨m + 1, by omega, by go_num, HE2, HM3, Hb3⟩
              case measure => simp [intOf]; omega
          · have hzb : (z != 0) = true := by simpa using hz
            have HF : Hid (R = z) := Lib.hid (by
              have h1 : E = z := by rw [← HEm'.out, secsErr_cons, Hz.out, if_neg hz]
              rw [← HR2.out, h1]; unfold orErr; rw [if_neg hz])
            clear hM2 Hz hz
            go_wp2
            go_ret
            exact ⟨ret_int HF.out.symm, Hb0.out.trans (Hb2.out.mono Hb0.out.size)⟩
        · have HF : Hid (T = R) := Lib.hid (by
            have h1 : E = 0 := by rw [← HEm.out, List.drop_of_length_le (by omega)]; rfl
            rw [← HR2.out, h1]; rfl)
          have HB := Lib.hid (HB0.out.below Hbm.out)
          have s0 := HB.out.2 0 _ rfl
          have s1 := HB.out.2 1 _ rfl
          have s2 := HB.out.2 2 _ rfl
          have s3 := HB.out.2 3 _ rfl
          have s5 := HB.out.1
          go_wp2_with fail
          refine (checkLinks_any ⟨A1, c1, A2, c2, A3, c3, A4, c4⟩ L _ (HR0.out.below Hbm.out) (by omega) (by omega)).mono ?_
          rintro e w3 ⟨rfl, hb3⟩
          rw [HT.out, HF.out]
          have Hb3 := Lib.hid (Hbm.out.trans (hb3.mono Hbm.out.size))
          clear hb3
          go_wp2
          go_ret
          exact ⟨rfl, Hb0.out.trans (Hb3.out.mono Hb0.out.size)⟩
end Go.Proofs.Ythnfliopmjpdmaa
