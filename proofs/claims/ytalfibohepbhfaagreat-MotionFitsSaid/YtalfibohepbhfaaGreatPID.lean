/- What the claims use of their texts: Ps2, RcK, Ends, Fits, LinkIn, CkLinks, Seen, Check, BrK, Valid, Rt1, RtP, Rt2, RteP, Rt3, Ps3, Ps4. -/
import Derived.Test.YtalfibohepbhfaaGreatPIC
set_option linter.unusedVariables false
set_option linter.unusedSimpArgs false
set_option maxRecDepth 4000
set_option maxHeartbeats 4000000
namespace Go.Proofs.YtalfibohepbhfaaGreat
open Go.RowKit
open Av
theorem plain_any (c : Nat) (w : World) (hc : c < 256) :
  Calls Tryz.prog 110 #[.int .u8 c] w fun e w' => e = .returned (.bool (isPlN c)) ∧ w = w' := by
 go_enter Tryz.func110, Tryz.ntmps110
 go_wp2
 all_goals
  go_ret
  exact ⟨ret_bool (by rw [Bool.eq_iff_iff]; simp [isPlN]; try omega), rfl⟩
theorem info_wrd : (Tryz.prog.info? 174).map (fun i => (i.zero, i.size, i.bytes)) = some (some (.agg #[.string ⟨#[]⟩, .int .i64 0, .int .i64 0]), 3, 32) := by kernel_rfl
def wF (p : PW) : List Value := [.string (bL p.tx), .int .i64 p.ln, .int .i64 p.co]
theorem ownsRow_put {w : World} {base : Nat} {e : TypeId} {size g cap n : Nat} {xs : List Value} (h : w.ownsRow base e size (.slice (some ⟨g, 0, none⟩) n cap) n xs) {j : Nat} (hj : j < xs.length) (v : Value) : (w.setCell ⟨g, j, none⟩ v).ownsRow base e size (.slice (some ⟨g, 0, none⟩) n cap) n (xs.set j v) := by
 obtain ⟨h1, h2⟩ := h
 refine ⟨by rw [List.length_set]; exact h1, ?_⟩
 rcases h2 with ⟨h0, _⟩ | ⟨g', cap', cur, hv, hg, hh, hn, hcap, hsz, ht⟩
 ·cases h0
 ·cases hv
  refine .inr ⟨g, cap, cur.setIfInBounds j v, rfl, hg, ?_, hn, hcap, by simpa using hsz, ?_⟩
  ·exact heap_setCell_same _ _ _ _ _ _ hh
  ·rw [Array.toList_setIfInBounds, ← ht, List.take_set]
theorem own_at {w : World} {base : Nat} {e : TypeId} {size : Nat} {A : Option Addr} {c n : Nat} {xs : List Value} (h : w.ownsRow base e size (.slice A n c) n xs) (hn : 0 < n) : ∃ g, A = some ⟨g, 0, none⟩ ∧ base ≤ g ∧ n ≤ c ∧ (∀ j, w.frozen? ⟨g, j, none⟩ = false) ∧ ∀ j u, xs[j]? = some u → w.cell? ⟨g, j, none⟩ = some u := by
 obtain ⟨h1, h2⟩ := h
 rcases h2 with ⟨_, h0⟩ | ⟨g, cap, cur, hv, hg, hh, hle, hcap, hsz, ht⟩
 ·omega
 ·injection hv with e1 e2 e3
  subst e1; subst e3
  refine ⟨g, rfl, hg, hle, fun j => by simp [World.frozen?, hh], fun j u hu => ?_⟩
  rw [← ht, List.getElem?_take] at hu
  split at hu
  ·simp only [World.cell?, hh]
   simpa using hu
  ·cases hu
def RetW (w : World) (ws : List PW) (e : Ending) (w' : World) : Prop :=
 ∃ A c, e = .returned (.tuple #[.slice A ws.length c, .int .i64 0]) ∧ OwnF w' w.heap.size 174 3 wF (.slice A ws.length c) ws ∧ Below w.heap.size w w'
set_option maxRecDepth 3000 in
theorem one_any (s : ByteArray) (ln : Int) (w : World) (hok : okLine s.data.toList = true) (hs : s.size ≤ 65536) (hw : (wOne s.data.toList ln).length ≤ 64) : Calls Tryz.prog 95 #[.string s, .int .i64 ln] w (RetW w (wOne s.data.toList ln)) := by
 obtain ⟨i0, hi, hz0, hz1, hz2⟩ := info_parts info_wrd
 obtain ⟨W, HW⟩ : ∃ W : Nat → List PW, Hid (∀ i, wUpto s.data.toList ln i = W i) := ⟨_, Lib.hid fun _ => rfl⟩
 have hlen : s.data.toList.length = s.size := by rfl
 go_enter Tryz.func95, Tryz.ntmps95
 go_wp2
 go_loopw [6, 7] (fun v kv wr => ∃ (k : Nat) (A : Option Addr) (c : Nat), k ≤ s.size ∧ kv = .int .i64 k ∧ v = .slice A (W k).length c ∧ Hid (wr.ownsRow w.heap.size 174 3 (.slice A (W k).length c) (W k).length ((W k).flatMap wF)) ∧ Hid (Below w.heap.size w wr)) (fun _ kv _ => s.size - (intOf kv).toNat)
 case atStart => exact ⟨0, none, 0, by omega, rfl, by rw [← HW.out]; rfl, by rw [← HW.out]; exact Lib.hid (World.ownsRow_nil w w.heap.size 174 3), Lib.hid (Below.refl _ _)⟩
 case round =>
  obtain ⟨k, A, c, hk, rfl, rfl, Ho, Hb⟩ := hrel
  by_cases hlt : k < s.size
  ·have hbk : (isSp s[k] || isPl s[k]) = true := by
    have := List.all_eq_true.1 hok s[k] (by rw [Array.mem_toList_iff]; exact Array.getElem_mem hlt)
    exact this
   have hk1 : wUpto s.data.toList ln (k + 1) = wStep s.data.toList ln (W k) k := by rw [← HW.out]; rfl
   have hgk : s.data.toList.getD k 0 = s[k] := by
    rw [List.getD_eq_getElem?_getD, List.getElem?_eq_getElem (by rw [hlen]; exact hlt)]; rfl
   by_cases hsp : isSp s[k] = true
   ·have HW1 : Hid (W (k + 1) = W k) := Lib.hid (by rw [← HW.out, hk1]; unfold wStep; rw [hgk, if_pos hsp])
    unfold isSp at hsp
    by_cases h32 : s[k].toNat = 32
    ·have hb1 : ((s[k].toNat : Int) == 32) = true := by rw [h32]; rfl
     have hb2 : ((s[k].toNat : Int) != 35) = true := by rw [h32]; rfl
     go_wp2
     go_roundw
     case rel => exact ⟨k + 1, A, c, by omega, by go_num, by rw [HW1.out], by rw [HW1.out]; exact Ho, Hb⟩
     case measure => simp [intOf]; omega
    ·have h9 : s[k].toNat = 9 := by simpa [h32] using hsp
     have hb0 : ((s[k].toNat : Int) == 32) = false := by rw [h9]; rfl
     have hb1 : ((s[k].toNat : Int) == 9) = true := by rw [h9]; rfl
     have hb2 : ((s[k].toNat : Int) != 35) = true := by rw [h9]; rfl
     go_wp2
     go_roundw
     case rel => exact ⟨k + 1, A, c, by omega, by go_num, by rw [HW1.out], by rw [HW1.out]; exact Ho, Hb⟩
     case measure => simp [intOf]; omega
   ·have hpl := isPl_of hbk hsp
    have hc : s[k].toNat ≠ 32 ∧ s[k].toNat ≠ 9 := by
     unfold isSp at hsp
     simp only [Bool.or_eq_true, decide_eq_true_eq, not_or] at hsp
     exact hsp
    have hc2 : s[k].toNat ≠ 35 := by
     have := hpl
     unfold isPl isPlN at this
     simp only [Bool.and_eq_true, decide_eq_true_eq] at this
     exact this.2
    have hb0 : ((s[k].toNat : Int) == 32) = false := by rw [beq_eq_false_iff_ne]; omega
    have hb1 : ((s[k].toNat : Int) == 9) = false := by rw [beq_eq_false_iff_ne]; omega
    have hb2 : ((s[k].toNat : Int) != 35) = true := by rw [bne_iff_ne]; omega
    have HP : Hid (isPlN s[k].toNat = true) := Lib.hid hpl
    by_cases hpr : 0 < k ∧ isPl (s.data.toList.getD (k - 1) 0) = true
    ·obtain ⟨j, hj⟩ : ∃ j, j = k - 1 := ⟨_, rfl⟩
     have hk0 : 1 ≤ k := by omega
     have hjs : j < s.size := by omega
     have hji : (k : Int) - 1 = (j : Int) := by omega
     have hgj : s.data.toList.getD j 0 = s[j] := by
      rw [List.getD_eq_getElem?_getD, List.getElem?_eq_getElem (by rw [hlen]; omega)]; rfl
     have HQ : Hid (isPlN s[j].toNat = true) := Lib.hid (by have := hpr.2; rw [← hj, hgj] at this; exact this)
     have hne : W k ≠ [] := by rw [← HW.out]; exact wUpto_ne ln hpr.1 hpr.2
     have HW1 : Hid (W (k + 1) = addLast (W k) s[k]) := Lib.hid (by rw [← HW.out, hk1]; unfold wStep; rw [hgk, if_neg hsp, if_pos hpr])
     obtain ⟨ws, x, Hx⟩ : ∃ ws x, Hid (W k = ws ++ [x]) := ⟨_, _, Lib.hid (List.dropLast_concat_getLast hne).symm⟩
     clear hk1 hgk hbk hpl hsp hpr hgj hc hc2 hne
     obtain ⟨m, hm⟩ : ∃ m, (W k).length = m + 1 := ⟨ws.length, by rw [Hx.out]; simp⟩
     have hmw : m = ws.length := by rw [Hx.out] at hm; simpa using hm.symm
     have Ho' := Ho.out
     rw [hm] at Ho' ⊢
     obtain ⟨g, rfl, hg0, hgc, hfz, hcl⟩ := own_at Ho' (Nat.succ_pos _)
     have hcl0 : wr.cell? ⟨g, m * 3, none⟩ = some (.string (bL x.tx)) := hcl (m * 3) _ (by
      rw [Hx.out, List.flatMap_append, List.getElem?_append_right (by rw [flatMap_lenB wF 3 (fun _ => rfl), ← hmw]; omega), flatMap_lenB wF 3 (fun _ => rfl), ← hmw, Nat.sub_self]; rfl)
     have hfz0 := hfz (m * 3)
     have hmb : m + 1 ≤ 65536 := by
      have := wUpto_len s.data.toList ln k
      rw [HW.out, hm] at this
      omega
     have Hmw := Lib.hid hmw
     have Hm := Lib.hid hm
     have HO := Lib.hid Ho'
     clear hj hmw hm hfz hcl Ho' Ho
     go_wp2_with fail
     refine (plain_any _ _ (UInt8.toNat_lt _)).mono ?_
     rintro e w' ⟨rfl, rfl⟩
     rw [HP.out]
     go_wp2_with fail
     refine (plain_any _ _ (UInt8.toNat_lt _)).mono ?_
     rintro e w' ⟨rfl, rfl⟩
     rw [HQ.out]
     go_wp2
     have hk2 : k + 1 ≤ s.size := hlt
     have hk3 : (k : Int) + 1 ≤ (s.size : Int) := by omega
     have hk4 : (0 : Int) ≤ (k : Int) + 1 := by omega
     have hk5 : (0 : Int) ≤ (k : Int) := by omega
     have hk6 : (k : Int) ≤ (k : Int) + 1 := by omega
     have hk7 : ((k : Int) + 1).toNat = k + 1 := by omega
     have hex := extract_one s k hlt
     have hxt : x.tx.length ≤ 65536 := by
      have := wUpto_tx s.data.toList ln k x (by rw [HW.out, Hx.out]; simp)
      omega
     have hsum : (bL x.tx).size + (bL [s[k]]).size ≤ 9223372036854775807 := by rw [bL_size, bL_size]; simp; omega
     have hsum2 : ((bL x.tx).size : Int) + ((bL [s[k]]).size : Int) ≤ 9223372036854775807 := by omega
     have hsum3 : ¬ (9223372036854775807 : Int) < ((bL x.tx).size : Int) + ((bL [s[k]]).size : Int) := by omega
     (refine wp_region_qtail (fun w' => ∃ n, w' = World.drewN wr n) 15 (by kernel_rfl) (by kernel_rfl) ⟨1, rfl⟩ ?_; simp only [List.take_succ_cons, List.take_zero, List.drop_succ_cons, List.drop_zero]; (repeat (go_big_quiet_step (fail))); refine wpQuiet_nil ?_; intro w' hw'; obtain ⟨nq, rfl⟩ := hw')
     have HO1 : Hid (((wr.drewN nq).setCell ⟨g, m * 3, none⟩ (.string (bL x.tx ++ bL [s[k]]))).ownsRow w.heap.size 174 3 (.slice (some ⟨g, 0, none⟩) (W (k + 1)).length c) (W (k + 1)).length ((W (k + 1)).flatMap wF)) := Lib.hid (by
      have h0 : (wr.drewN nq).ownsRow w.heap.size 174 3 (.slice (some ⟨g, 0, none⟩) (m + 1) c) (m + 1) ((W k).flatMap wF) := HO.out
      have h1 := ownsRow_put h0 (j := m * 3) (by rw [flatMap_lenB wF 3 (fun _ => rfl), Hm.out]; omega) (.string (bL x.tx ++ bL [s[k]]))
      have e2 : ((W k).flatMap wF).set (m * 3) (.string (bL x.tx ++ bL [s[k]])) = (W (k + 1)).flatMap wF := by
       rw [HW1.out, Hx.out, addLast_snoc, List.flatMap_append, List.flatMap_append, List.set_append_right _ _ (by rw [flatMap_lenB wF 3 (fun _ => rfl), Hmw.out]; omega), flatMap_lenB wF 3 (fun _ => rfl), ← Hmw.out, Nat.sub_self, bL_app]
       rfl
      have e3 : (W (k + 1)).length = m + 1 := by rw [HW1.out, addLast_len, Hm.out]
      rw [e2] at h1
      rw [e3]; exact h1)
     have HB1 : Hid (Below w.heap.size w ((wr.drewN nq).setCell ⟨g, m * 3, none⟩ (.string (bL x.tx ++ bL [s[k]])))) := Lib.hid (Below.setCell (show Below w.heap.size w (wr.drewN nq) from ⟨Hb.out.os, Hb.out.tape, Hb.out.output, Hb.out.size, Hb.out.block⟩) (by exact hg0) _)
     have e4 : (W (k + 1)).length = m + 1 := by rw [HW1.out, addLast_len, Hm.out]
     go_wp2
     generalize (wr.drewN nq).setCell ⟨g, m * 3, none⟩ (.string (bL x.tx ++ bL [s[k]])) = w5 at *
     go_roundw
     case rel => exact ⟨k + 1, some ⟨g, 0, none⟩, c, by omega, by go_num, by rw [e4], HO1, HB1⟩
     case measure => simp [intOf]; omega
    ·have HW1 : Hid (W (k + 1) = W k ++ [⟨[s[k]], ln, k + 1⟩]) := Lib.hid (by rw [← HW.out, hk1]; unfold wStep; rw [hgk, if_neg hsp, if_neg hpr])
     have hex := extract_one s k hlt
     have hWl : (W k).length ≤ 65536 := by
      have := wUpto_len s.data.toList ln k
      rw [HW.out] at this
      omega
     have hk2 : k + 1 ≤ s.size := hlt
     have hk3 : (k : Int) + 1 ≤ (s.size : Int) := by omega
     have hk4 : (0 : Int) ≤ (k : Int) + 1 := by omega
     have hk5 : (0 : Int) ≤ (k : Int) := by omega
     have hk6 : (k : Int) ≤ (k : Int) + 1 := by omega
     have hk7 : ((k : Int) + 1).toNat = k + 1 := by omega
     by_cases hk0 : k = 0
     ·have hkz : ¬ (0 : Int) < (k : Int) := by omega
      have hkz2 : ¬ 0 < k := by omega
      clear hk1 hgk hbk hpl hsp hpr hc hc2 hk0
      go_wp2_with fail
      refine (plain_any _ _ (UInt8.toNat_lt _)).mono ?_
      rintro e w' ⟨rfl, rfl⟩
      rw [HP.out]
      go_wp2_with (at_builtin; refine wpList_append_lies _ (by rfl) _ _ _ (by rfl) w.heap.size 174 i0 (.agg #[.string ⟨#[]⟩, .int .i64 0, .int .i64 0]) 3 32 Tryz.underlying172 hi hz0 hz1 hz2 rfl (by omega) _ (W k).length _ (by rfl) (Ho.out.alloc _) ⟨wr.heap.size, 0, none⟩ 1 1 [.string (bL [s[k]]), .int .i64 ln, .int .i64 (k + 1)] (by rfl) (by rfl) ?c1 ?c2 (by omega) ?c3 ?c4 ?c5 (wr.heap.size + 1) (by simp) ?_)
      case c1 => exact World.news_of_block (heap_alloc_new wr _)
      case c2 => intro u hu; simp at hu; rcases hu with rfl | rfl | rfl <;> rfl
      case c3 => unfold maxLen; omega
      case c4 => omega
      case c5 => have := Hb.out.size; simp; omega
      intro g cap w1 hown hg hat hlt1
      have Hown : Hid (w1.ownsRow w.heap.size 174 3 (.slice (some ⟨g, 0, none⟩) ((W k).length + 1) cap) ((W k).length + 1) ((W (k + 1)).flatMap wF)) := Lib.hid (by rw [HW1.out, List.flatMap_append]; exact hown)
      have Hb1 : Hid (Below w.heap.size w w1) := Lib.hid ((Hb.out.alloc Hb.out.size _).grown hg (by have := Hb.out.size; simp; omega) (fun q hq => ((Ho.out.lt q hq).1)))
      have e4 : (W (k + 1)).length = (W k).length + 1 := by rw [HW1.out]; simp
      clear hown hg hat
      go_wp2
      go_roundw
      case rel => exact ⟨k + 1, some ⟨g, 0, none⟩, cap, by omega, by go_num, by rw [e4], by rw [e4]; exact Hown, Hb1⟩
      case measure => simp [intOf]; omega
     ·obtain ⟨j, hj⟩ : ∃ j, j = k - 1 := ⟨_, rfl⟩
      have hk0 : 1 ≤ k := by omega
      have hjs : j < s.size := by omega
      have hji : (k : Int) - 1 = (j : Int) := by omega
      have hgj : s.data.toList.getD j 0 = s[j] := by
       rw [List.getD_eq_getElem?_getD, List.getElem?_eq_getElem (by rw [hlen]; omega)]; rfl
      have HQ : Hid (isPlN s[j].toNat = false) := Lib.hid (by
       cases e : isPlN s[j].toNat with
       | false => rfl
       | true => exact absurd ⟨by omega, by rw [← hj, hgj]; exact e⟩ hpr)
      clear hk1 hgk hbk hpl hsp hpr hgj hc hc2 hj
      go_wp2_with fail
      refine (plain_any _ _ (UInt8.toNat_lt _)).mono ?_
      rintro e w' ⟨rfl, rfl⟩
      rw [HP.out]
      go_wp2_with fail
      refine (plain_any _ _ (UInt8.toNat_lt _)).mono ?_
      rintro e w' ⟨rfl, rfl⟩
      rw [HQ.out]
      go_wp2_with (at_builtin; refine wpList_append_lies _ (by rfl) _ _ _ (by rfl) w.heap.size 174 i0 (.agg #[.string ⟨#[]⟩, .int .i64 0, .int .i64 0]) 3 32 Tryz.underlying172 hi hz0 hz1 hz2 rfl (by omega) _ (W k).length _ (by rfl) (Ho.out.alloc _) ⟨wr.heap.size, 0, none⟩ 1 1 [.string (bL [s[k]]), .int .i64 ln, .int .i64 (k + 1)] (by rfl) (by rfl) ?c1 ?c2 (by omega) ?c3 ?c4 ?c5 (wr.heap.size + 1) (by simp) ?_)
      case c1 => exact World.news_of_block (heap_alloc_new wr _)
      case c2 => intro u hu; simp at hu; rcases hu with rfl | rfl | rfl <;> rfl
      case c3 => unfold maxLen; omega
      case c4 => omega
      case c5 => have := Hb.out.size; simp; omega
      intro g cap w1 hown hg hat hlt1
      have Hown : Hid (w1.ownsRow w.heap.size 174 3 (.slice (some ⟨g, 0, none⟩) ((W k).length + 1) cap) ((W k).length + 1) ((W (k + 1)).flatMap wF)) := Lib.hid (by rw [HW1.out, List.flatMap_append]; exact hown)
      have Hb1 : Hid (Below w.heap.size w w1) := Lib.hid ((Hb.out.alloc Hb.out.size _).grown hg (by have := Hb.out.size; simp; omega) (fun q hq => ((Ho.out.lt q hq).1)))
      have e4 : (W (k + 1)).length = (W k).length + 1 := by rw [HW1.out]; simp
      clear hown hg hat
      go_wp2
      go_roundw
      case rel => exact ⟨k + 1, some ⟨g, 0, none⟩, cap, by omega, by go_num, by rw [e4], by rw [e4]; exact Hown, Hb1⟩
      case measure => simp [intOf]; omega
  ·obtain rfl : s.size = k := by omega
   have hwl : (W s.size).length ≤ 64 := by rw [← HW.out, ← hlen]; exact hw
   have HWO : Hid (wOne s.data.toList ln = W s.size) := Lib.hid (HW.out _)
   go_wp2
   go_ret2
   exact ⟨A, c, by rw [HWO.out]; rfl, by rw [HWO.out]; exact Ho.out, Hb.out⟩
end Go.Proofs.YtalfibohepbhfaaGreat
namespace Go.Proofs.YtalfibohepbhfaaGreat
def ShortS (l : List ByteArray) : Prop := ∀ s ∈ l, s.size ≤ 9223372036854775807
theorem strW (t s : ByteArray) : (t.toList == s.toList) = eqS s t := by
 rw [ByteArray.toList_eq, ByteArray.toList_eq, Bool.eq_iff_iff, eqS_iff, beq_iff_eq]
 exact ⟨fun h => by cases s; cases t; simp at h; rw [h], fun h => by rw [h]⟩
theorem mem_snoc (s : ByteArray) (l : List ByteArray) {k : Nat} (h : k < l.length) : memS s (l.take (k + 1)) = (memS s (l.take k) || eqS s (l.getD k ⟨#[]⟩)) := by
 unfold memS
 rw [List.take_succ_eq_append_getElem h, List.any_append, List.any_cons, List.any_nil, Bool.or_false, List.getD_eq_getElem?_getD, List.getElem?_eq_getElem h]
 rfl
theorem mem_take (s : ByteArray) (l : List ByteArray) {k i : Nat} (h : k < i) (hi : i ≤ l.length) (he : eqS s (l.getD k ⟨#[]⟩) = true) : memS s (l.take i) = true := by
 unfold memS
 rw [List.getD_eq_getElem?_getD, List.getElem?_eq_getElem (show k < l.length by omega)] at he
 exact List.any_eq_true.2 ⟨_, List.mem_iff_getElem.2 ⟨k, by rw [List.length_take]; omega, List.getElem_take ..⟩, he⟩
end Go.Proofs.YtalfibohepbhfaaGreat
namespace Go.Proofs.YtalfibohepbhfaaGreat.Av
open Go.RowKit
def Plain (r : AVal) (v : Value) : Prop := ∀ w κ ρ l, RepA w κ ρ l r v
theorem plain_i {n : Int} {k : IntKind} : Plain (.c (.f (.v (.int k n)))) (.int k n) := fun _ _ _ _ => RepF.v _ rfl
theorem plain_b {b : Bool} : Plain (aB b) (.bool b) := fun _ _ _ _ => RepF.v _ rfl
theorem plain_2 {a b : CVal} {u v : Value} (ha : Plain (.c a) u) (hb : Plain (.c b) v) (fa : a.flat = true) (fb : b.flat = true) : Plain (.tup [.c a, .c b]) (.tuple #[u, v]) := fun w κ ρ l => by
 refine ⟨#[u, v], rfl, rfl, fun i h h' => ?_⟩
 match i, h with
 | 0, _ => exact ⟨fa, ha w κ ρ l⟩
 | 1, _ => exact ⟨fb, hb w κ ρ l⟩
theorem ok_old {P : Program} {f : FuncId} {args : List AVal} {r : AVal} (fn : Func) (hf : P.funcs[f]? = some fn) (hb : fn.body.isSome = true) (hn : (fn.name == "runtime.NumGoroutine") = false) (hflat : Flat r = true) (hrok : r.ok 0 = true)
  (h : ∀ (w : World) (κ : Nat → BK) (ρ : Nat → Nat) (vals : Array Value), vals.size = args.length → (∀ i (h : i < args.length) (h' : i < vals.size) l, RepA w κ ρ l args[i] vals[i]) → ∃ v, Plain r v ∧ Calls P f vals w fun e w' => e = .returned v ∧ Below w.heap.size w w') : Ok P f args [] r [] := by
 refine ⟨⟨fn, hf, hb, hn⟩, flat_dem hflat, hrok, Nat.le_refl _, fun w κ ρ vals hs hr hok hH => ?_⟩
 obtain ⟨v, hp, hc⟩ := h w κ ρ vals hs hr
 refine hc.mono ?_
 rintro e w' ⟨rfl, hB⟩
 refine ⟨v, fun g => if g < w.heap.size then κ g else .lock none, ρ, rfl, fun l => hp _ _ _ l, ⟨fun b cs h => by simp at h, fun b cs h => by simp at h⟩, ⟨hB.os, hB.tape, hB.output, hB.size, fun g n hg hl => ⟨by rw [if_pos hg]; exact hl, hB.block g hg⟩, ⟨hB.size, fun g o x hg _ hx => ?_, fun g n hg hf => by rw [if_pos hg]; exact hf⟩⟩, fun _ _ => rfl⟩
 rw [World.cell?_of_block (w := w) (a := ⟨g, o, none⟩) (hB.block g hg)]
 exact hx
theorem one_arg {vals : Array Value} (h : vals.size = 1) : vals = #[vals[0]] := by
 apply Array.ext
 ·simp [h]
 ·intro i h1 h2
  match i, h2 with
  | 0, _ => rfl
theorem refName_okV (s : ByteArray) (hz : s.size ≤ 9223372036854775807) : OkV Tryz.prog 103 [vS s] [] (vB (nameB s)) [] := by
 refine ok_old _ Tryz.func103 (by kernel_rfl) (by kernel_rfl) rfl rfl fun w κ ρ vals hs hr => ⟨_, plain_b, ?_⟩
 have hs : vals.size = 1 := hs
 have h0 := (repF_v.1 (hr 0 (by simp) (by omega) (.slot 0))).1
 rw [one_arg hs, show vals[0] = .string s from h0]
 refine (refName_any s w hz).mono ?_
 rintro e w' ⟨he, rfl⟩
 exact ⟨he, Below.refl _ _⟩
theorem refNames_okV (l : List ByteArray) (i : Nat) (hi : i < l.length) (hl : l.length ≤ 1000) (hs : ShortS l) : OkV Tryz.prog 81 [.c (rStr l), .c (xI i)] [] (vI (nameErr (l.take i) (l.getD i ⟨#[]⟩))) [] := by
 have hz : (l.getD (i : Int).toNat ⟨#[]⟩).size ≤ 9223372036854775807 := by
  rw [Int.toNat_natCast, List.getD_eq_getElem?_getD, List.getElem?_eq_getElem hi]
  exact hs _ (List.getElem_mem hi)
 have hN := refName_okV (l.getD (i : Int).toNat ⟨#[]⟩) hz
 unfold nameErr
 by_cases hb : nameB (l.getD i ⟨#[]⟩) = true
 ·rw [show nameB (l.getD (i : Int).toNat ⟨#[]⟩) = true from hb] at hN
  rw [if_neg (by rw [hb]; decide)]
  refine X_fnP mixedX Tryz.func81 rfl (by kernel_rfl) (Nat.le_of_ble_eq_true (by kernel_rfl)) (by kernel_rfl) rfl rfl ?_
  simp only [sl0, Nat.zero_add, Nat.reduceAdd]
  repeat' (first|with_reducible (first|refine q_and ?_ ?_|exact True.intro|refine Red.o (by constructor) ?_|fail)|((with_reducible apply q_call);refine X_pure (hN) rfl ?_)|with_reducible (first|refine W_seq ?_|refine W_block ?_)|((with_reducible apply q_cond);refine X_cond rfl ?_ ?_;all_goals (intro hbq;(try simp only [bq] at hbq);(try (exfalso;omega))))|refine Rex.o (by (with_reducible constructor);apply Eq.refl) ?_|((with_reducible apply q_VOk);exact fun _ => ⟨rfl,rfl⟩)|omega)
  refine W_loopS (fun k : Nat => SS [sC 0 (rStr l), sI 1 i, sI 5 k] []) (fun k => k ≤ i ∧ memS (l.getD i ⟨#[]⟩) (l.take k) = false) (fun k => i - k) 0 ?_ ⟨by omega, rfl⟩ ?_
  ·
   refine X_weak rfl rfl rfl ?_ ?_ <;> repeat' (first|with_reducible (first|refine Wk.o (by constructor) ?_|refine q_and ?_ ?_|exact True.intro)|refine q_AgS rfl ?_ ?_|exact (rfl : known _ = _)|omega)
  intro k hk
  obtain ⟨hk, hno⟩ := hk
  by_cases hki : k < i
  ·have hsn := mem_snoc (l.getD i ⟨#[]⟩) l (k := k) (by omega)
   have hw := strW (l.getD (k : Int).toNat ⟨#[]⟩) (l.getD (i : Int).toNat ⟨#[]⟩)
   cases he : Go.Proofs.YtalfibohepbhfaaGreat.eqS (l.getD i ⟨#[]⟩) (l.getD k ⟨#[]⟩) with
   | true =>
    rw [show Go.Proofs.YtalfibohepbhfaaGreat.eqS (l.getD (i : Int).toNat ⟨#[]⟩) (l.getD (k : Int).toNat ⟨#[]⟩) = true from he] at hw
    rw [if_pos (mem_take _ l hki (by omega) he)]
    repeat' (first|with_reducible (first|refine q_and ?_ ?_|exact True.intro|refine Red.o (by constructor) ?_|fail)|((with_reducible apply q_cond);refine X_cond rfl ?_ ?_;all_goals (intro hbq;(try simp only [bq,and_true,true_and,and_false,false_and,or_true,true_or,or_false,false_or,not_true_eq_false,not_false_eq_true,Bool.true_eq_false,Bool.false_eq_true,hw] at hbq);(try (exfalso;omega))))|with_reducible (first|refine W_seq ?_|refine W_block ?_)|refine Rex.o (by (with_reducible constructor);apply Eq.refl) ?_|((with_reducible apply q_VOk);exact fun _ => ⟨rfl,rfl⟩)|((with_reducible apply q_CRB);kernel_rfl)|omega)
    all_goals rfl
   | false =>
    rw [show Go.Proofs.YtalfibohepbhfaaGreat.eqS (l.getD (i : Int).toNat ⟨#[]⟩) (l.getD (k : Int).toNat ⟨#[]⟩) = false from he] at hw
    rw [hno, he] at hsn
    repeat' (first|with_reducible (first|refine q_and ?_ ?_|exact True.intro|refine Red.o (by constructor) ?_|fail)|((with_reducible apply q_cond);refine X_cond rfl ?_ ?_;all_goals (intro hbq;(try simp only [bq,and_true,true_and,and_false,false_and,or_true,true_or,or_false,false_or,not_true_eq_false,not_false_eq_true,Bool.true_eq_false,Bool.false_eq_true,hw] at hbq);(try (exfalso;omega))))|with_reducible (first|refine W_seq ?_|refine W_block ?_)|refine Rex.o (by (with_reducible constructor);apply Eq.refl) ?_|((with_reducible apply q_VOk);exact fun _ => ⟨rfl,rfl⟩)|((with_reducible apply q_CRB);kernel_rfl)|omega)
    ·
     refine LoopK_n (k + 1) ?_ (⟨by omega, hsn⟩) (by (try dsimp only); omega)
     refine X_weak rfl rfl rfl ?_ ?_ <;> repeat' (first|with_reducible (first|refine Wk.o (by constructor) ?_|refine q_and ?_ ?_|exact True.intro)|refine q_AgS rfl ?_ ?_|exact (rfl : known _ = _)|omega)
  ·have hki : k = i := by omega
   subst hki
   rw [if_neg (by rw [hno]; decide)]
   repeat' (first|with_reducible (first|refine q_and ?_ ?_|exact True.intro|refine Red.o (by constructor) ?_|fail)|with_reducible (refine W_seq ?_)|((with_reducible apply q_cond);refine X_cond rfl ?_ ?_;all_goals (intro hbq;(try simp only [bq] at hbq);(try (exfalso;omega))))|refine Rex.o (by (with_reducible constructor);apply Eq.refl) ?_|fail)
   all_goals rfl
 ·have hb : nameB (l.getD i ⟨#[]⟩) = false := by simpa using hb
  rw [show nameB (l.getD (i : Int).toNat ⟨#[]⟩) = false from hb] at hN
  rw [if_pos hb]
  refine X_fnP mixedX Tryz.func81 rfl (by kernel_rfl) (Nat.le_of_ble_eq_true (by kernel_rfl)) (by kernel_rfl) rfl rfl ?_
  simp only [sl0, Nat.zero_add, Nat.reduceAdd]
  repeat' (first|with_reducible (first|refine q_and ?_ ?_|exact True.intro|refine Red.o (by constructor) ?_|fail)|((with_reducible apply q_call);refine X_pure (hN) rfl ?_)|with_reducible (refine W_seq ?_)|((with_reducible apply q_cond);refine X_cond rfl ?_ ?_;all_goals (intro hbq;(try simp only [bq] at hbq);(try (exfalso;omega))))|refine Rex.o (by (with_reducible constructor);apply Eq.refl) ?_|((with_reducible apply q_VOk);exact fun _ => ⟨rfl,rfl⟩)|omega)
  all_goals rfl
theorem has_okV (k : Lnk) (a e : Int) : OkV Tryz.prog 104 [.agg (vLnk k), .agg [xI a, xI e]] [] (vB (hasE k (a, e))) [] := by
 unfold hasE vLnk
 refine X_fnP mixedX Tryz.func104 rfl (by kernel_rfl) (Nat.le_of_ble_eq_true (by kernel_rfl)) (by kernel_rfl) rfl rfl ?_
 simp only [sl0, Nat.zero_add, Nat.reduceAdd]
 repeat' (first|with_reducible (first|refine q_and ?_ ?_|exact True.intro|refine Red.o (by constructor) ?_|assumption)|with_reducible (refine W_seq ?_)|refine Rex.o (by (with_reducible constructor);apply Eq.refl) ?_|(intro (hgq : (_ : Bool) = true);(try simp only [bq] at hgq))|(intro (hgq : (_ : Bool) = false);(try simp only [bq] at hgq))|((with_reducible apply q_bt);simp only [bq])|(simp only [hgq,bq];done))
 ·refine VEq.c (CEq.bool ?_)
  simp only [Bool.decide_or, Bool.decide_and]
theorem refIn_okV (n lo hi : Int) : OkV Tryz.prog 83 [.c (xI n), .c (xI lo), .c (xI hi)] [] (vB (decide (lo ≤ n) && decide (n ≤ hi))) [] := by
 refine X_fn mixedX Tryz.func83 rfl (by kernel_rfl) (Nat.le_of_ble_eq_true (by kernel_rfl)) (by kernel_rfl) rfl rfl (Nat.le_of_ble_eq_true rfl) rfl rfl ?_
 simp only [sl0, Nat.zero_add, Nat.reduceAdd]
 repeat' (first|with_reducible (first|refine q_and ?_ ?_|exact True.intro|exact TkEq.nil _|refine Red.o (by constructor) ?_|assumption)|with_reducible (refine W_seq ?_)|refine Rex.o (by (with_reducible constructor);apply Eq.refl) ?_|(intro (hgq : (_ : Bool) = true);(try simp only [bq] at hgq))|((with_reducible apply q_bt);simp only [bq]))
 repeat' (first|with_reducible (first|refine Wk.o (by constructor) ?_|exact True.intro)|refine VEq.c ?_)
theorem atE_snoc (l : List Lnk) (x : Int × Int) {j : Nat} (h : j < l.length) : atE (l.take (j + 1)) x = atE (l.take j) x ++ (if hasE (l.getD j lnk0) x = true then [l.getD j lnk0] else []) := by
 unfold atE
 rw [List.take_succ_eq_append_getElem h, List.filter_append, List.getD_eq_getElem?_getD, List.getElem?_eq_getElem h]
 simp only [Option.getD_some, List.filter_cons, List.filter_nil]
def lastL (l : List Lnk) : Lnk := l.getLast?.getD lnk0
theorem lastL_snoc (l : List Lnk) (k : Lnk) : lastL (l ++ [k]) = k := by unfold lastL; simp
theorem fit_eq (k : Lnk) (hk : -1 ≤ k.pt) (l : List Lnk) : fitB k l = (decide ((l.length : Int) = 0) || (decide ((l.length : Int) = 1) && decide (0 ≤ k.pt) && decide ((lastL l).pt = k.pt) && !decide ((lastL l).ps = k.ps))) := by
 match l with
 | [] => rfl
 | [j] =>
  have hj : lastL [j] = j := rfl
  rw [hj]
  unfold fitB
  rw [Bool.eq_iff_iff]
  simp only [decide_eq_true_eq, Bool.or_eq_true, Bool.and_eq_true, Bool.not_eq_true', decide_eq_false_iff_not, List.length_singleton]
  constructor <;> intro h <;> omega
 | a :: b :: l =>
  simp only [fitB, List.length_cons]
  rw [decide_eq_false (by omega), decide_eq_false (by omega)]
  rfl
theorem free_okV (L : Lay) (i : Nat) (hi : i < L.lnks.length) (hl : L.lnks.length ≤ 1000) (a e : Int) (hp : -1 ≤ (L.lnks.getD i lnk0).pt) : OkV Tryz.prog 105 [vLay L, .c (xI i), .agg [xI a, xI e]] [] (vB (fitB (L.lnks.getD i lnk0) (atE (L.lnks.take i) (a, e)))) [] := by
 have hH := fun k => has_okV k a e
 rw [fit_eq _ hp]
 unfold vLnk at hH
 unfold vLay
 refine X_fnP mixedX Tryz.func105 rfl (by kernel_rfl) (Nat.le_of_ble_eq_true (by kernel_rfl)) (by kernel_rfl) rfl rfl ?_
 simp only [sl0, Nat.zero_add, Nat.reduceAdd]
 repeat' (first|with_reducible (first|refine q_and ?_ ?_|exact True.intro|refine Red.o (by constructor) ?_|fail)|with_reducible (first|refine W_seq ?_|refine W_block ?_)|refine Rex.o (by (with_reducible constructor);apply Eq.refl) ?_|((with_reducible apply q_VOk);exact fun _ => ⟨rfl,rfl⟩)|omega)
 refine W_loopS (fun j : Nat => SS [sI 1 i, sC 3 (pB 0), sC 5 (pB 1), sC 7 (pB 2), sI 8 ((atE (L.lnks.take j) (a, e)).length : Nat), sC 9 (pB 3), sI 10 j] [some (.cells [rStr L.sts, rStr L.pts, rSec L.secs, rLnk L.lnks]), some (.cells [xI a, xI e]), some (.cells (vLnk (L.lnks.getD (i : Int).toNat lnk0))), some (.cells (vLnk (lastL (atE (L.lnks.take j) (a, e)))))]) (fun j => j ≤ i) (fun j => i - j) 0 ?_ (by omega) ?_
 ·
  refine X_weak rfl rfl rfl ?_ ?_ <;> repeat' (first|with_reducible (first|refine Wk.o (by constructor) ?_|refine q_and ?_ ?_|exact True.intro)|refine q_AgS rfl ?_ ?_|refine SLe.cons ?_ ?_|exact (rfl : known _ = _)|omega)
  all_goals rfl
 intro j hj
 have hal : (atE (L.lnks.take j) (a, e)).length ≤ 1000 := by
  unfold atE
  refine Nat.le_trans (List.length_filter_le _ _) ?_
  rw [List.length_take]; omega
 by_cases hji : j < i
 ·have hsn := atE_snoc L.lnks (a, e) (j := j) (by omega)
  have hC := hH (L.lnks.getD (j : Int).toNat lnk0)
  cases hb : hasE (L.lnks.getD j lnk0) (a, e) with
  | true =>
   rw [show hasE (L.lnks.getD (j : Int).toNat lnk0) (a, e) = true from hb] at hC
   rw [if_pos hb] at hsn
   repeat' (first|with_reducible (first|refine q_and ?_ ?_|exact True.intro|refine Red.o (by constructor) ?_|fail)|((with_reducible apply q_call);refine X_pure (hC) rfl ?_)|with_reducible (first|refine W_seq ?_|refine W_block ?_)|((with_reducible apply q_cond);refine X_cond rfl ?_ ?_;all_goals (intro hbq;(try simp only [bq] at hbq);(try (exfalso;omega))))|refine Rex.o (by (with_reducible constructor);apply Eq.refl) ?_|((with_reducible apply q_VOk);exact fun _ => ⟨rfl,rfl⟩)|((with_reducible apply q_CRB);kernel_rfl)|omega)
   ·
    refine LoopK_n (j + 1) ?_ ((by omega)) (by (try dsimp only); omega)
    refine X_weak rfl rfl rfl ?_ ?_ <;> repeat' (first|with_reducible (first|refine Wk.o (by constructor) ?_|refine q_and ?_ ?_|exact True.intro)|refine q_AgS rfl ?_ ?_|refine SLe.cons ?_ ?_|exact (rfl : known _ = _)|omega)
    all_goals (rw [hsn]; first | (simp; done) | (rw [lastL_snoc]; rfl))
  | false =>
   rw [show hasE (L.lnks.getD (j : Int).toNat lnk0) (a, e) = false from hb] at hC
   rw [if_neg (by rw [hb]; decide), List.append_nil] at hsn
   repeat' (first|with_reducible (first|refine q_and ?_ ?_|exact True.intro|refine Red.o (by constructor) ?_|fail)|((with_reducible apply q_call);refine X_pure (hC) rfl ?_)|with_reducible (first|refine W_seq ?_|refine W_block ?_)|((with_reducible apply q_cond);refine X_cond rfl ?_ ?_;all_goals (intro hbq;(try simp only [bq] at hbq);(try (exfalso;omega))))|refine Rex.o (by (with_reducible constructor);apply Eq.refl) ?_|((with_reducible apply q_VOk);exact fun _ => ⟨rfl,rfl⟩)|((with_reducible apply q_CRB);kernel_rfl)|omega)
   ·
    refine LoopK_n (j + 1) ?_ ((by omega)) (by (try dsimp only); omega)
    refine X_weak rfl rfl rfl ?_ ?_ <;> repeat' (first|with_reducible (first|refine Wk.o (by constructor) ?_|refine q_and ?_ ?_|exact True.intro)|refine q_AgS rfl ?_ ?_|refine SLe.cons ?_ ?_|exact (rfl : known _ = _)|omega)
    all_goals (rw [hsn]; try rfl)
 ·have hje : j = i := by omega
  subst hje
  repeat' (first|with_reducible (first|refine q_and ?_ ?_|exact True.intro|refine Red.o (by constructor) ?_|assumption)|with_reducible (refine W_seq ?_)|((with_reducible apply q_cond);refine X_cond rfl ?_ ?_;all_goals (intro hbq;(try simp only [bq] at hbq);(try (exfalso;omega))))|refine Rex.o (by (with_reducible constructor);apply Eq.refl) ?_|(intro (hgq : (_ : Bool) = true);(try simp only [bq] at hgq))|(intro (hgq : (_ : Bool) = false);(try simp only [bq] at hgq))|((with_reducible apply q_bt);simp only [bq])|(simp only [hgq,bq];done)|omega)
  ·refine VEq.c (CEq.bool ?_)
   rfl
theorem refLink_okV (L : Lay) (i : Nat) (hi : i < L.lnks.length) (hl : L.lnks.length ≤ 1000) (h2 : L.pts.length ≤ 1000) (h3 : L.secs.length ≤ 1000) : OkV Tryz.prog 84 [vLay L, .c (xI i)] [] (vI (linkErr L.secs.length L.pts.length (L.lnks.take i) (L.lnks.getD i lnk0))) [] := by
 have hH := fun k a e => has_okV k a e
 have f1 := fun a e hp => free_okV L i hi hl a e hp
 have c1 := refIn_okV (L.lnks.getD (i : Int).toNat lnk0).a 0 ((L.secs.length : Int) - 1)
 have c2 := refIn_okV (L.lnks.getD (i : Int).toNat lnk0).b 0 ((L.secs.length : Int) - 1)
 have c3 := refIn_okV (L.lnks.getD (i : Int).toNat lnk0).ae 0 1
 have c4 := refIn_okV (L.lnks.getD (i : Int).toNat lnk0).be 0 1
 have c5 := refIn_okV (L.lnks.getD (i : Int).toNat lnk0).pt (-1) ((L.pts.length : Int) - 1)
 have c6 := refIn_okV (L.lnks.getD (i : Int).toNat lnk0).ps 0 1
 unfold vLnk at hH
 generalize hK : L.lnks.getD i lnk0 = K at *
 have hKi : L.lnks.getD (i : Int).toNat lnk0 = K := hK
 by_cases hB : linkB L.secs.length L.pts.length K = true
 ·have hb := linkB_of hB
  have g1 := f1 K.a K.ae hb.2.2.2.2.2.2.2.2.1
  have g2 := f1 K.b K.be hb.2.2.2.2.2.2.2.2.1
  clear f1
  rw [← hKi] at hb
  unfold linkErr
  rw [if_neg (by rw [hB]; decide)]
  by_cases hab : K.a = K.b ∧ K.ae = K.be
  ·rw [if_pos (by rw [hab.1, hab.2])]
   rw [← hKi] at hab
   unfold vLay
   refine X_fnP mixedX Tryz.func84 rfl (by kernel_rfl) (Nat.le_of_ble_eq_true (by kernel_rfl)) (by kernel_rfl) rfl rfl ?_
   simp only [sl0, Nat.zero_add, Nat.reduceAdd]
   repeat' (first|with_reducible (first|refine q_and ?_ ?_|exact True.intro|refine Red.o (by constructor) ?_|assumption)|((with_reducible apply q_call);refine X_pure (c1) rfl ?_)|((with_reducible apply q_callG);refine X_pureG ((fun _ => c2)) rfl ?_ ?_)|((with_reducible apply q_callG);refine X_pureG ((fun _ => c3)) rfl ?_ ?_)|((with_reducible apply q_callG);refine X_pureG ((fun _ => c4)) rfl ?_ ?_)|((with_reducible apply q_callG);refine X_pureG ((fun _ => c5)) rfl ?_ ?_)|((with_reducible apply q_callG);refine X_pureG ((fun _ => c6)) rfl ?_ ?_)|((with_reducible apply q_W);refine W_two [0, 1, 2, 3, 4, 5, 6, 7, 8, 9] 10 11 [12, 13] 2 (by kernel_rfl) rfl rfl rfl rfl ?_)|((with_reducible apply q_TB);kernel_rfl)|((with_reducible apply q_LB);exact LB_SS rfl)|((with_reducible apply q_RK);refine RK_SS rfl ?_)|with_reducible (refine W_seq ?_)|((with_reducible apply q_cond);refine X_cond rfl ?_ ?_;all_goals (intro hbq;(try simp only [bq] at hbq);(try (exfalso;omega))))|refine Rex.o (by (with_reducible constructor);apply Eq.refl) ?_|(intro (hgq : (_ : Bool) = true);(try simp only [bq] at hgq))|(intro (hgq : (_ : Bool) = false);(try simp only [bq] at hgq))|((with_reducible apply q_VOk);exact fun _ => ⟨rfl,rfl⟩)|((with_reducible apply q_bt);simp only [bq])|(simp only [hgq,bq];done)|omega)
   all_goals rfl
  ·rw [if_neg (fun e => hab (by injection e with e1 e2; exact ⟨e1, e2⟩))]
   rw [← hKi] at hab
   unfold vLay at g1 g2 ⊢
   refine X_fnP mixedX Tryz.func84 rfl (by kernel_rfl) (Nat.le_of_ble_eq_true (by kernel_rfl)) (by kernel_rfl) rfl rfl ?_
   simp only [sl0, Nat.zero_add, Nat.reduceAdd]
   repeat' (first|with_reducible (first|refine q_and ?_ ?_|exact True.intro|refine Red.o (by constructor) ?_|assumption)|((with_reducible apply q_call);refine X_pure (c1) rfl ?_)|((with_reducible apply q_callG);refine X_pureG ((fun _ => c2)) rfl ?_ ?_)|((with_reducible apply q_callG);refine X_pureG ((fun _ => c3)) rfl ?_ ?_)|((with_reducible apply q_callG);refine X_pureG ((fun _ => c4)) rfl ?_ ?_)|((with_reducible apply q_callG);refine X_pureG ((fun _ => c5)) rfl ?_ ?_)|((with_reducible apply q_callG);refine X_pureG ((fun _ => c6)) rfl ?_ ?_)|((with_reducible apply q_W);refine W_two [0, 1, 2, 3, 4, 5, 6, 7, 8, 9] 10 11 [12, 13] 2 (by kernel_rfl) rfl rfl rfl rfl ?_)|((with_reducible apply q_TB);kernel_rfl)|((with_reducible apply q_LB);exact LB_SS rfl)|((with_reducible apply q_RK);refine RK_SS rfl ?_)|with_reducible (first|refine W_seq ?_|refine W_block ?_)|((with_reducible apply q_cond);refine X_cond rfl ?_ ?_;all_goals (intro hbq;(try simp only [bq] at hbq);(try (exfalso;omega))))|refine Rex.o (by (with_reducible constructor);apply Eq.refl) ?_|(intro (hgq : (_ : Bool) = true);(try simp only [bq] at hgq))|(intro (hgq : (_ : Bool) = false);(try simp only [bq] at hgq))|((with_reducible apply q_VOk);exact fun _ => ⟨rfl,rfl⟩)|((with_reducible apply q_bt);simp only [bq])|(simp only [hgq,bq];done)|omega)
   clear c1 c2 c3 c4 c5 c6
   all_goals (
    refine W_loopS (fun j : Nat => SS [sI 1 i, sC 2 (pB 0), sC 5 (pB 1), sC 7 (pB 2), sC 8 (pB 3), sI 9 j] [some (.cells [rStr L.sts, rStr L.pts, rSec L.secs, rLnk L.lnks]), none, some (.cells [xI (L.lnks.getD (i : Int).toNat lnk0).a, xI (L.lnks.getD (i : Int).toNat lnk0).ae]), some (.cells [xI (L.lnks.getD (i : Int).toNat lnk0).b, xI (L.lnks.getD (i : Int).toNat lnk0).be])]) (fun j => j ≤ i ∧ (L.lnks.take j).any (fun k => hasE k ((L.lnks.getD (i : Int).toNat lnk0).a, (L.lnks.getD (i : Int).toNat lnk0).ae) && hasE k ((L.lnks.getD (i : Int).toNat lnk0).b, (L.lnks.getD (i : Int).toNat lnk0).be)) = false) (fun j => i - j) 0 ?_ ⟨by omega, rfl⟩ ?_
    ·
     refine X_weak rfl rfl rfl ?_ ?_ <;> repeat' (first|with_reducible (first|refine Wk.o (by constructor) ?_|refine q_and ?_ ?_|exact True.intro)|refine q_AgS rfl ?_ ?_|exact (rfl : known _ = _)|omega)
     all_goals rfl
    intro j hj
    obtain ⟨hj, hno⟩ := hj
    by_cases hji : j < i
    ·have hC := hH (L.lnks.getD (j : Int).toNat lnk0) (L.lnks.getD (i : Int).toNat lnk0).a (L.lnks.getD (i : Int).toNat lnk0).ae
     have hD := hH (L.lnks.getD (j : Int).toNat lnk0) (L.lnks.getD (i : Int).toNat lnk0).b (L.lnks.getD (i : Int).toNat lnk0).be
     have hsn : (L.lnks.take (j + 1)).any (fun k => hasE k ((L.lnks.getD (i : Int).toNat lnk0).a, (L.lnks.getD (i : Int).toNat lnk0).ae) && hasE k ((L.lnks.getD (i : Int).toNat lnk0).b, (L.lnks.getD (i : Int).toNat lnk0).be)) = ((L.lnks.take j).any (fun k => hasE k ((L.lnks.getD (i : Int).toNat lnk0).a, (L.lnks.getD (i : Int).toNat lnk0).ae) && hasE k ((L.lnks.getD (i : Int).toNat lnk0).b, (L.lnks.getD (i : Int).toNat lnk0).be)) || (hasE (L.lnks.getD (j : Int).toNat lnk0) ((L.lnks.getD (i : Int).toNat lnk0).a, (L.lnks.getD (i : Int).toNat lnk0).ae) && hasE (L.lnks.getD (j : Int).toNat lnk0) ((L.lnks.getD (i : Int).toNat lnk0).b, (L.lnks.getD (i : Int).toNat lnk0).be))) := by
      rw [List.take_succ_eq_append_getElem (show j < L.lnks.length by omega), List.any_append, List.any_cons, List.any_nil, Bool.or_false, Int.toNat_natCast j, List.getD_eq_getElem?_getD (l := L.lnks) (i := j), List.getElem?_eq_getElem (show j < L.lnks.length by omega)]
      rfl
     cases hc1 : hasE (L.lnks.getD (j : Int).toNat lnk0) ((L.lnks.getD (i : Int).toNat lnk0).a, (L.lnks.getD (i : Int).toNat lnk0).ae) with
     | true =>
      cases hc2 : hasE (L.lnks.getD (j : Int).toNat lnk0) ((L.lnks.getD (i : Int).toNat lnk0).b, (L.lnks.getD (i : Int).toNat lnk0).be) with
      | true =>
       have hany : (L.lnks.take i).any (fun k => hasE k (K.a, K.ae) && hasE k (K.b, K.be)) = true := by
        rw [hKi] at hc1 hc2
        refine List.any_eq_true.2 ⟨L.lnks.getD j lnk0, ?_, by rw [Bool.and_eq_true]; exact ⟨hc1, hc2⟩⟩
        rw [List.getD_eq_getElem?_getD, List.getElem?_eq_getElem (show j < L.lnks.length by omega)]
        exact List.mem_iff_getElem.2 ⟨j, by rw [List.length_take]; omega, List.getElem_take ..⟩
       rw [if_pos hany]
       rw [hc1] at hC
       rw [hc2] at hD
       repeat' (first|with_reducible (first|refine q_and ?_ ?_|exact True.intro|refine Red.o (by constructor) ?_|fail)|((with_reducible apply q_call);refine X_pure (hC) rfl ?_)|((with_reducible apply q_callG);refine X_pureG ((fun _ => hD)) rfl ?_ ?_)|with_reducible (first|refine W_seq ?_|refine W_block ?_)|((with_reducible apply q_cond);refine X_cond rfl ?_ ?_;all_goals (intro hbq;(try simp only [bq] at hbq);(try (exfalso;omega))))|refine Rex.o (by (with_reducible constructor);apply Eq.refl) ?_|(intro (hgq : (_ : Bool) = true);(try simp only [bq] at hgq))|((with_reducible apply q_VOk);exact fun _ => ⟨rfl,rfl⟩)|((with_reducible apply q_CRB);kernel_rfl)|((with_reducible apply q_bt);simp only [bq])|omega)
       all_goals rfl
      | false =>
       rw [hc1, hc2, hno] at hsn
       rw [hc1] at hC
       rw [hc2] at hD
       repeat' (first|with_reducible (first|refine q_and ?_ ?_|exact True.intro|refine Red.o (by constructor) ?_|fail)|((with_reducible apply q_call);refine X_pure (hC) rfl ?_)|((with_reducible apply q_callG);refine X_pureG ((fun _ => hD)) rfl ?_ ?_)|with_reducible (first|refine W_seq ?_|refine W_block ?_)|((with_reducible apply q_cond);refine X_cond rfl ?_ ?_;all_goals (intro hbq;(try simp only [bq] at hbq);(try (exfalso;omega))))|refine Rex.o (by (with_reducible constructor);apply Eq.refl) ?_|(intro (hgq : (_ : Bool) = true);(try simp only [bq] at hgq))|((with_reducible apply q_VOk);exact fun _ => ⟨rfl,rfl⟩)|((with_reducible apply q_CRB);kernel_rfl)|((with_reducible apply q_bt);simp only [bq])|omega)
       ·
        refine LoopK_n (j + 1) ?_ (⟨by omega, hsn⟩) (by (try dsimp only); omega)
        refine X_weak rfl rfl rfl ?_ ?_ <;> repeat' (first|with_reducible (first|refine Wk.o (by constructor) ?_|refine q_and ?_ ?_|exact True.intro)|refine q_AgS rfl ?_ ?_|exact (rfl : known _ = _)|omega)
     | false =>
      rw [hc1, hno, Bool.false_and] at hsn
      rw [hc1] at hC
      repeat' (first|with_reducible (first|refine q_and ?_ ?_|exact True.intro|refine Red.o (by constructor) ?_|fail)|((with_reducible apply q_call);refine X_pure (hC) rfl ?_)|((with_reducible apply q_callG);refine X_pureG ((fun _ => hD)) rfl ?_ ?_)|with_reducible (first|refine W_seq ?_|refine W_block ?_)|((with_reducible apply q_cond);refine X_cond rfl ?_ ?_;all_goals (intro hbq;(try simp only [bq] at hbq);(try (exfalso;omega))))|refine Rex.o (by (with_reducible constructor);apply Eq.refl) ?_|(intro (hgq : (_ : Bool) = true);(try simp only [bq] at hgq))|((with_reducible apply q_VOk);exact fun _ => ⟨rfl,rfl⟩)|((with_reducible apply q_CRB);kernel_rfl)|omega)
      ·
       refine LoopK_n (j + 1) ?_ (⟨by omega, hsn⟩) (by (try dsimp only); omega)
       refine X_weak rfl rfl rfl ?_ ?_ <;> repeat' (first|with_reducible (first|refine Wk.o (by constructor) ?_|refine q_and ?_ ?_|exact True.intro)|refine q_AgS rfl ?_ ?_|exact (rfl : known _ = _)|omega)
    ·have hje : i = j := by omega
     subst hje
     rw [hKi] at hno
     rw [if_neg (by rw [hno]; decide)]
     rw [← hKi] at g1 g2
     generalize hq1 : fitB (L.lnks.getD (i : Int).toNat lnk0) (atE (L.lnks.take i) ((L.lnks.getD (i : Int).toNat lnk0).a, (L.lnks.getD (i : Int).toNat lnk0).ae)) = q1 at g1
     generalize hq2 : fitB (L.lnks.getD (i : Int).toNat lnk0) (atE (L.lnks.take i) ((L.lnks.getD (i : Int).toNat lnk0).b, (L.lnks.getD (i : Int).toNat lnk0).be)) = q2 at g2
     rw [hKi] at hq1 hq2
     rw [hq1, hq2]
     cases q1 with
     | false =>
      rw [if_pos (.inl rfl)]
      repeat' (first|with_reducible (first|refine q_and ?_ ?_|exact True.intro|refine Red.o (by constructor) ?_|fail)|((with_reducible apply q_call);refine X_pure (g1) rfl ?_)|((with_reducible apply q_callG);refine X_pureG ((fun _ => g2)) rfl ?_ ?_)|with_reducible (refine W_seq ?_)|((with_reducible apply q_cond);refine X_cond rfl ?_ ?_;all_goals (intro hbq;(try simp only [bq] at hbq);(try (exfalso;omega))))|refine Rex.o (by (with_reducible constructor);apply Eq.refl) ?_|(intro (hgq : (_ : Bool) = true);(try simp only [bq] at hgq))|(intro (hgq : (_ : Bool) = false);(try simp only [bq] at hgq)))
      all_goals rfl
     | true =>
      cases q2 with
      | false =>
       rw [if_pos (.inr rfl)]
       repeat' (first|with_reducible (first|refine q_and ?_ ?_|exact True.intro|refine Red.o (by constructor) ?_|fail)|((with_reducible apply q_call);refine X_pure (g1) rfl ?_)|((with_reducible apply q_callG);refine X_pureG ((fun _ => g2)) rfl ?_ ?_)|with_reducible (refine W_seq ?_)|((with_reducible apply q_cond);refine X_cond rfl ?_ ?_;all_goals (intro hbq;(try simp only [bq] at hbq);(try (exfalso;omega))))|refine Rex.o (by (with_reducible constructor);apply Eq.refl) ?_|(intro (hgq : (_ : Bool) = true);(try simp only [bq] at hgq))|(intro (hgq : (_ : Bool) = false);(try simp only [bq] at hgq))|((with_reducible apply q_bt);simp only [bq]))
       all_goals rfl
      | true =>
       rw [if_neg (by simp)]
       repeat' (first|with_reducible (first|refine q_and ?_ ?_|exact True.intro|refine Red.o (by constructor) ?_|fail)|((with_reducible apply q_call);refine X_pure (g1) rfl ?_)|((with_reducible apply q_callG);refine X_pureG ((fun _ => g2)) rfl ?_ ?_)|with_reducible (refine W_seq ?_)|((with_reducible apply q_cond);refine X_cond rfl ?_ ?_;all_goals (intro hbq;(try simp only [bq] at hbq);(try (exfalso;omega))))|refine Rex.o (by (with_reducible constructor);apply Eq.refl) ?_|(intro (hgq : (_ : Bool) = true);(try simp only [bq] at hgq))|(intro (hgq : (_ : Bool) = false);(try simp only [bq] at hgq))|((with_reducible apply q_bt);simp only [bq]))
       all_goals rfl
    )
 ·have hB : linkB L.secs.length L.pts.length K = false := by simpa using hB
  unfold linkErr
  rw [if_pos hB]
  unfold linkB at hB
  rw [decide_eq_false_iff_not, ← hKi] at hB
  unfold vLay
  refine X_fnP mixedX Tryz.func84 rfl (by kernel_rfl) (Nat.le_of_ble_eq_true (by kernel_rfl)) (by kernel_rfl) rfl rfl ?_
  simp only [sl0, Nat.zero_add, Nat.reduceAdd]
  repeat' (first|with_reducible (first|refine q_and ?_ ?_|exact True.intro|refine Red.o (by constructor) ?_|assumption)|((with_reducible apply q_call);refine X_pure (c1) rfl ?_)|((with_reducible apply q_callG);refine X_pureG ((fun _ => c2)) rfl ?_ ?_)|((with_reducible apply q_callG);refine X_pureG ((fun _ => c3)) rfl ?_ ?_)|((with_reducible apply q_callG);refine X_pureG ((fun _ => c4)) rfl ?_ ?_)|((with_reducible apply q_callG);refine X_pureG ((fun _ => c5)) rfl ?_ ?_)|((with_reducible apply q_callG);refine X_pureG ((fun _ => c6)) rfl ?_ ?_)|with_reducible (refine W_seq ?_)|((with_reducible apply q_cond);refine X_cond rfl ?_ ?_;all_goals (intro hbq;(try simp only [bq] at hbq);(try (exfalso;omega))))|refine Rex.o (by (with_reducible constructor);apply Eq.refl) ?_|(intro (hgq : (_ : Bool) = true);(try simp only [bq] at hgq))|(intro (hgq : (_ : Bool) = false);(try simp only [bq] at hgq))|((with_reducible apply q_VOk);exact fun _ => ⟨rfl,rfl⟩)|((with_reducible apply q_bt);simp only [bq])|(simp only [hgq,bq];done)|omega)
  all_goals rfl
theorem drop_get {α : Type} {l : List α} {i : Nat} (d : α) (h : i < l.length) : l.drop i = l.getD i d :: l.drop (i + 1) := by
 rw [List.drop_eq_getElem_cons h, List.getD_eq_getElem?_getD, List.getElem?_eq_getElem h]
 rfl
theorem take_get {α : Type} {l : List α} {i : Nat} (d : α) (h : i < l.length) : l.take (i + 1) = l.take i ++ [l.getD i d] := by
 rw [List.take_succ_eq_append_getElem h, List.getD_eq_getElem?_getD, List.getElem?_eq_getElem h]
 rfl
theorem names_0 {l : List ByteArray} {i : Nat} (h : i < l.length) (h0 : nameErr (l.take i) (l.getD i ⟨#[]⟩) = 0) : namesErr (l.take i) (l.drop i) = namesErr (l.take (i + 1)) (l.drop (i + 1)) := by
 rw [drop_get ⟨#[]⟩ h, namesErr, if_pos h0, take_get ⟨#[]⟩ h]
theorem names_1 {l : List ByteArray} {i : Nat} (h : i < l.length) (h0 : ¬ nameErr (l.take i) (l.getD i ⟨#[]⟩) = 0) : namesErr (l.take i) (l.drop i) = nameErr (l.take i) (l.getD i ⟨#[]⟩) := by
 rw [drop_get ⟨#[]⟩ h, namesErr, if_neg h0]
theorem links_0 {a b : Nat} {l : List Lnk} {i : Nat} (h : i < l.length) (h0 : linkErr a b (l.take i) (l.getD i lnk0) = 0) : linksErr a b (l.take i) (l.drop i) = linksErr a b (l.take (i + 1)) (l.drop (i + 1)) := by
 rw [drop_get lnk0 h, linksErr, if_pos h0, take_get lnk0 h]
theorem links_1 {a b : Nat} {l : List Lnk} {i : Nat} (h : i < l.length) (h0 : ¬ linkErr a b (l.take i) (l.getD i lnk0) = 0) : linksErr a b (l.take i) (l.drop i) = linkErr a b (l.take i) (l.getD i lnk0) := by
 rw [drop_get lnk0 h, linksErr, if_neg h0]
theorem nm_get {l : List Sec} {i : Nat} (h : i < l.length) : (l.map Sec.nm).getD i ⟨#[]⟩ = (l.getD i sec0).nm := by
 simp [List.getD_eq_getElem?_getD, List.getElem?_map, List.getElem?_eq_getElem h]
theorem secs_0 {n : Nat} {l : List Sec} {i : Nat} (h : i < l.length) (h0 : nameErr ((l.map Sec.nm).take i) ((l.map Sec.nm).getD i ⟨#[]⟩) = 0) (h1 : secB n (l.getD i sec0) = true) : secsErr n ((l.map Sec.nm).take i) (l.drop i) = secsErr n ((l.map Sec.nm).take (i + 1)) (l.drop (i + 1)) := by
 rw [nm_get h] at h0
 rw [drop_get sec0 h, secsErr, if_pos h0, if_pos h1, take_get ⟨#[]⟩ (by rw [List.length_map]; exact h), nm_get h]
theorem secs_1 {n : Nat} {l : List Sec} {i : Nat} (h : i < l.length) (h0 : ¬ nameErr ((l.map Sec.nm).take i) ((l.map Sec.nm).getD i ⟨#[]⟩) = 0) : secsErr n ((l.map Sec.nm).take i) (l.drop i) = nameErr ((l.map Sec.nm).take i) ((l.map Sec.nm).getD i ⟨#[]⟩) := by
 rw [nm_get h] at h0 ⊢
 rw [drop_get sec0 h, secsErr, if_neg h0]
theorem secs_4 {n : Nat} {l : List Sec} {i : Nat} (h : i < l.length) (h0 : nameErr ((l.map Sec.nm).take i) ((l.map Sec.nm).getD i ⟨#[]⟩) = 0) (h1 : ¬ secB n (l.getD i sec0) = true) : secsErr n ((l.map Sec.nm).take i) (l.drop i) = 4 := by
 rw [nm_get h] at h0
 rw [drop_get sec0 h, secsErr, if_pos h0, if_neg h1]
theorem orErr_z (b : Int) : orErr 0 b = b := rfl
theorem orErr_n {a : Int} (h : ¬ a = 0) (b : Int) : orErr a b = a := if_neg h
theorem secNames_ok (L : Lay) (h : L.secs.length ≤ 1000) : OkV Tryz.prog 82 [vLay L] [] (.c (rStr (L.secs.map Sec.nm))) [] := by
 unfold vLay
 refine X_fn mixedX Tryz.func82 rfl (by kernel_rfl) (Nat.le_of_ble_eq_true (by kernel_rfl)) (by kernel_rfl) rfl rfl (Nat.le_of_ble_eq_true rfl) rfl rfl ?_
 simp only [sl0, Nat.zero_add, Nat.reduceAdd]
 repeat' (first|with_reducible (first|refine q_and ?_ ?_|exact True.intro)|refine Rex.o (by (with_reducible constructor);apply Eq.refl) ?_|fail)
 refine W_loopS (fun i : Nat => SS [sC 1 (pB 0), sC 3 (uStr ((L.secs.take i).map Sec.nm)), sI 4 i] [some (.cells [rStr L.sts, rStr L.pts, rSec L.secs, rLnk L.lnks])]) (fun i => i ≤ L.secs.length) (fun i => L.secs.length - i) 0 ?_ (by omega) ?_
 ·
  refine X_weak rfl rfl rfl ?_ ?_ <;> repeat' (first|with_reducible (first|refine Wk.o (by constructor) ?_|refine q_and ?_ ?_|exact True.intro)|refine q_AgS rfl ?_ ?_|exact CLe.nil_tipS|exact (rfl : known _ = _)|omega)
 intro i hi
 have hl : ((L.secs.take i).map Sec.nm).length = min i L.secs.length := by simp
 have hsn : i < L.secs.length → (L.secs.take (i + 1)).map Sec.nm = (L.secs.take i).map Sec.nm ++ [(L.secs.getD i sec0).nm] := fun h => by
  rw [take_get sec0 h, List.map_append]
  rfl
 repeat' (first|with_reducible (first|refine q_and ?_ ?_|exact True.intro|exact TkEq.nil _|refine Red.o (by constructor) ?_|assumption)|((with_reducible apply q_CI);intro hbq;(try simp only [bq] at hbq);(try (exfalso;omega)))|refine Rex.o (by (with_reducible constructor);apply Eq.refl) ?_|((with_reducible apply q_VOk);exact fun _ => ⟨rfl,rfl⟩)|((with_reducible apply q_eqN);rfl)|((with_reducible apply q_FE);exact rfl)|omega)
 ·
  refine LoopK_n (i + 1) ?_ ((by omega)) (by (try dsimp only); omega)
  refine X_weak rfl rfl rfl ?_ ?_ <;> repeat' (first|with_reducible (first|refine Wk.o (by constructor) ?_|refine q_and ?_ ?_|exact True.intro)|refine q_AgS rfl ?_ ?_|exact (rfl : known _ = _)|omega)
  ·rw [hsn (by omega)]; rfl
 ·have hie : i = L.secs.length := by omega
  subst hie
  rw [List.take_length]
  repeat' (first|with_reducible (first|refine Wk.o (by constructor) ?_|exact True.intro)|refine VEq.c ?_)
theorem refCheck_ok2 (L : Lay) (s1 : ShortS L.sts) (s2 : ShortS L.pts) (s3 : ShortS (L.secs.map Sec.nm)) (m1 : L.sts.length ≤ 9223372036854775807) (m2 : L.pts.length ≤ 9223372036854775807) (m3 : L.secs.length ≤ 9223372036854775807) (m4 : L.lnks.length ≤ 9223372036854775807) : OkV Tryz.prog 64 [vLay L] [] (vI (layErr L)) [] := by
 by_cases hf : 24 < L.sts.length ∨ 48 < L.pts.length ∨ 96 < L.secs.length ∨ 192 < L.lnks.length
 ·unfold layErr
  rw [if_pos hf]
  unfold vLay
  refine X_fnP mixedX Tryz.func64 rfl (by kernel_rfl) (Nat.le_of_ble_eq_true (by kernel_rfl)) (by kernel_rfl) rfl rfl ?_
  simp only [sl0, Nat.zero_add, Nat.reduceAdd]
  repeat' (first|with_reducible (first|refine q_and ?_ ?_|exact True.intro|refine Red.o (by constructor) ?_|assumption)|with_reducible (refine W_seq ?_)|((with_reducible apply q_cond);refine X_cond rfl ?_ ?_;all_goals (intro hbq;(try simp only [bq] at hbq);(try (exfalso;omega))))|refine Rex.o (by (with_reducible constructor);apply Eq.refl) ?_|(intro (hgq : (_ : Bool) = true);(try simp only [bq] at hgq))|(intro (hgq : (_ : Bool) = false);(try simp only [bq] at hgq))|((with_reducible apply q_bt);simp only [bq])|(simp only [hgq,bq];done))
  all_goals rfl
 by_cases hz : L.secs.length = 0
 ·unfold layErr
  rw [if_neg hf, if_pos hz]
  unfold vLay
  refine X_fnP mixedX Tryz.func64 rfl (by kernel_rfl) (Nat.le_of_ble_eq_true (by kernel_rfl)) (by kernel_rfl) rfl rfl ?_
  simp only [sl0, Nat.zero_add, Nat.reduceAdd]
  repeat' (first|with_reducible (first|refine q_and ?_ ?_|exact True.intro|refine Red.o (by constructor) ?_|assumption)|with_reducible (refine W_seq ?_)|((with_reducible apply q_cond);refine X_cond rfl ?_ ?_;all_goals (intro hbq;(try simp only [bq] at hbq);(try (exfalso;omega))))|refine Rex.o (by (with_reducible constructor);apply Eq.refl) ?_|(intro (hgq : (_ : Bool) = true);(try simp only [bq] at hgq))|(intro (hgq : (_ : Bool) = false);(try simp only [bq] at hgq))|((with_reducible apply q_bt);simp only [bq])|(simp only [hgq,bq];done))
  all_goals rfl
 have hR : layErr L = orErr (namesErr (L.sts.take 0) (L.sts.drop 0)) (orErr (namesErr (L.pts.take 0) (L.pts.drop 0)) (orErr (secsErr L.sts.length ((L.secs.map Sec.nm).take 0) (L.secs.drop 0)) (linksErr L.secs.length L.pts.length (L.lnks.take 0) (L.lnks.drop 0)))) := by
  unfold layErr
  rw [if_neg hf, if_neg hz]
  rfl
 have hN := secNames_ok L (by omega)
 have hK := fun i hi => refLink_okV L i hi (by omega) (by omega) (by omega)
 generalize layErr L = R at *
 unfold vLay at hN hK ⊢
 refine X_fnP mixedX Tryz.func64 rfl (by kernel_rfl) (Nat.le_of_ble_eq_true (by kernel_rfl)) (by kernel_rfl) rfl rfl ?_
 simp only [sl0, Nat.zero_add, Nat.reduceAdd]
 repeat' (first|with_reducible (first|refine q_and ?_ ?_|exact True.intro|refine Red.o (by constructor) ?_|assumption)|with_reducible (first|refine W_seq ?_|refine W_block ?_)|((with_reducible apply q_cond);refine X_cond rfl ?_ ?_;all_goals (intro hbq;(try simp only [bq] at hbq);(try (exfalso;omega))))|refine Rex.o (by (with_reducible constructor);apply Eq.refl) ?_|(intro (hgq : (_ : Bool) = true);(try simp only [bq] at hgq))|(intro (hgq : (_ : Bool) = false);(try simp only [bq] at hgq))|((with_reducible apply q_bt);simp only [bq])|(simp only [hgq,bq];done))
 refine W_loopS (fun i : Nat => SS [sC 1 (pB 0), sI 3 i] [some (.cells [rStr L.sts, rStr L.pts, rSec L.secs, rLnk L.lnks])]) (fun i => i ≤ L.sts.length ∧ R = orErr (namesErr (L.sts.take i) (L.sts.drop i)) (orErr (namesErr (L.pts.take 0) (L.pts.drop 0)) (orErr (secsErr L.sts.length ((L.secs.map Sec.nm).take 0) (L.secs.drop 0)) (linksErr L.secs.length L.pts.length (L.lnks.take 0) (L.lnks.drop 0))))) (fun i => L.sts.length - i) 0 ?_ ⟨by omega, hR⟩ ?_
 ·
  refine X_weak rfl rfl rfl ?_ ?_ <;> repeat' (first|with_reducible (first|refine Wk.o (by constructor) ?_|refine q_and ?_ ?_|exact True.intro)|refine q_AgS rfl ?_ ?_|exact (rfl : known _ = _)|omega)
 clear hR
 rintro i ⟨hi, hR⟩
 by_cases hil : i < L.sts.length
 ·have hC := refNames_okV L.sts i hil (by omega) s1
  by_cases hz2 : nameErr (L.sts.take i) (L.sts.getD i ⟨#[]⟩) = 0
  ·rw [hz2] at hC
   rw [names_0 hil hz2] at hR
   repeat' (first|with_reducible (first|refine q_and ?_ ?_|exact True.intro|refine Red.o (by constructor) ?_|fail)|((with_reducible apply q_call);refine X_pure (hC) rfl ?_)|with_reducible (first|refine W_seq ?_|refine W_block ?_)|((with_reducible apply q_cond);refine X_cond rfl ?_ ?_;all_goals (intro hbq;(try simp only [bq] at hbq);(try (exfalso;omega))))|refine Rex.o (by (with_reducible constructor);apply Eq.refl) ?_|omega)
   ·
    refine LoopK_n (i + 1) ?_ (⟨by omega, hR⟩) (by (try dsimp only); omega)
    refine X_weak rfl rfl rfl ?_ ?_ <;> repeat' (first|with_reducible (first|refine Wk.o (by constructor) ?_|refine q_and ?_ ?_|exact True.intro)|refine q_AgS rfl ?_ ?_|exact (rfl : known _ = _)|omega)
  ·rw [names_1 hil hz2, orErr_n hz2] at hR
   rw [← hR] at hC hz2
   repeat' (first|with_reducible (first|refine q_and ?_ ?_|exact True.intro|refine Red.o (by constructor) ?_|fail)|((with_reducible apply q_call);refine X_pure (hC) rfl ?_)|with_reducible (first|refine W_seq ?_|refine W_block ?_)|((with_reducible apply q_cond);refine X_cond rfl ?_ ?_;all_goals (intro hbq;(try simp only [bq] at hbq);(try (exfalso;omega))))|refine Rex.o (by (with_reducible constructor);apply Eq.refl) ?_|fail)
   all_goals rfl
 have hie : i = L.sts.length := by omega
 subst hie
 rw [List.drop_length, namesErr, orErr_z] at hR
 repeat' (first|with_reducible (first|refine q_and ?_ ?_|exact True.intro|refine Red.o (by constructor) ?_|fail)|with_reducible (first|refine W_seq ?_|refine W_block ?_)|((with_reducible apply q_cond);refine X_cond rfl ?_ ?_;all_goals (intro hbq;(try simp only [bq] at hbq);(try (exfalso;omega))))|refine Rex.o (by (with_reducible constructor);apply Eq.refl) ?_|fail)
 refine W_loopS (fun i : Nat => SS [sC 1 (pB 0), sI 5 i] [some (.cells [rStr L.sts, rStr L.pts, rSec L.secs, rLnk L.lnks])]) (fun i => i ≤ L.pts.length ∧ R = orErr (namesErr (L.pts.take i) (L.pts.drop i)) (orErr (secsErr L.sts.length ((L.secs.map Sec.nm).take 0) (L.secs.drop 0)) (linksErr L.secs.length L.pts.length (L.lnks.take 0) (L.lnks.drop 0)))) (fun i => L.pts.length - i) 0 ?_ ⟨by omega, hR⟩ ?_
 ·
  refine X_weak rfl rfl rfl ?_ ?_ <;> repeat' (first|with_reducible (first|refine Wk.o (by constructor) ?_|refine q_and ?_ ?_|exact True.intro)|refine q_AgS rfl ?_ ?_|exact (rfl : known _ = _)|omega)
 clear hR
 rintro i ⟨hi2, hR⟩
 by_cases hil : i < L.pts.length
 ·have hC := refNames_okV L.pts i hil (by omega) s2
  by_cases hz2 : nameErr (L.pts.take i) (L.pts.getD i ⟨#[]⟩) = 0
  ·rw [hz2] at hC
   rw [names_0 hil hz2] at hR
   repeat' (first|with_reducible (first|refine q_and ?_ ?_|exact True.intro|refine Red.o (by constructor) ?_|fail)|((with_reducible apply q_call);refine X_pure (hC) rfl ?_)|with_reducible (first|refine W_seq ?_|refine W_block ?_)|((with_reducible apply q_cond);refine X_cond rfl ?_ ?_;all_goals (intro hbq;(try simp only [bq] at hbq);(try (exfalso;omega))))|refine Rex.o (by (with_reducible constructor);apply Eq.refl) ?_|omega)
   ·
    refine LoopK_n (i + 1) ?_ (⟨by omega, hR⟩) (by (try dsimp only); omega)
    refine X_weak rfl rfl rfl ?_ ?_ <;> repeat' (first|with_reducible (first|refine Wk.o (by constructor) ?_|refine q_and ?_ ?_|exact True.intro)|refine q_AgS rfl ?_ ?_|exact (rfl : known _ = _)|omega)
  ·rw [names_1 hil hz2, orErr_n hz2] at hR
   rw [← hR] at hC hz2
   repeat' (first|with_reducible (first|refine q_and ?_ ?_|exact True.intro|refine Red.o (by constructor) ?_|fail)|((with_reducible apply q_call);refine X_pure (hC) rfl ?_)|with_reducible (first|refine W_seq ?_|refine W_block ?_)|((with_reducible apply q_cond);refine X_cond rfl ?_ ?_;all_goals (intro hbq;(try simp only [bq] at hbq);(try (exfalso;omega))))|refine Rex.o (by (with_reducible constructor);apply Eq.refl) ?_|fail)
   all_goals rfl
 have hie : i = L.pts.length := by omega
 subst hie
 rw [List.drop_length, namesErr, orErr_z] at hR
 have hml : (L.secs.map Sec.nm).length = L.secs.length := by rw [List.length_map]
 repeat' (first|with_reducible (first|refine q_and ?_ ?_|exact True.intro|refine Red.o (by constructor) ?_|fail)|((with_reducible apply q_call);refine X_pure (hN) rfl ?_)|with_reducible (first|refine W_seq ?_|refine W_block ?_)|((with_reducible apply q_cond);refine X_cond rfl ?_ ?_;all_goals (intro hbq;(try simp only [bq] at hbq);(try (exfalso;omega))))|refine Rex.o (by (with_reducible constructor);apply Eq.refl) ?_|fail)
 refine W_loopS (fun i : Nat => SS [sC 1 (pB 0), sC 7 (rStr (L.secs.map Sec.nm)), sI 8 i] [some (.cells [rStr L.sts, rStr L.pts, rSec L.secs, rLnk L.lnks])]) (fun i => i ≤ L.secs.length ∧ R = orErr (secsErr L.sts.length ((L.secs.map Sec.nm).take i) (L.secs.drop i)) (linksErr L.secs.length L.pts.length (L.lnks.take 0) (L.lnks.drop 0))) (fun i => L.secs.length - i) 0 ?_ ⟨by omega, hR⟩ ?_
 ·
  refine X_weak rfl rfl rfl ?_ ?_ <;> repeat' (first|with_reducible (first|refine Wk.o (by constructor) ?_|refine q_and ?_ ?_|exact True.intro)|refine q_AgS rfl ?_ ?_|exact (rfl : known _ = _)|omega)
 clear hR
 rintro i ⟨hi3, hR⟩
 by_cases hil : i < L.secs.length
 ·have hC := refNames_okV (L.secs.map Sec.nm) i (by omega) (by omega) s3
  by_cases hz2 : nameErr ((L.secs.map Sec.nm).take i) ((L.secs.map Sec.nm).getD i ⟨#[]⟩) = 0
  ·rw [hz2] at hC
   have c1 := refIn_okV (L.secs.getD (i : Int).toNat sec0).len 1 400
   have c2 := refIn_okV (L.secs.getD (i : Int).toNat sec0).lim 1000 100000
   have c3 := refIn_okV (L.secs.getD (i : Int).toNat sec0).grd (-40) 40
   have c4 := refIn_okV (L.secs.getD (i : Int).toNat sec0).stn (-1) ((L.sts.length : Int) - 1)
   by_cases hb : secB L.sts.length (L.secs.getD i sec0) = true
   ·rw [secs_0 hil hz2 hb] at hR
    have hq := secB_of (show secB L.sts.length (L.secs.getD (i : Int).toNat sec0) = true from hb)
    repeat' (first|with_reducible (first|refine q_and ?_ ?_|exact True.intro|refine Red.o (by constructor) ?_|assumption)|((with_reducible apply q_call);first|refine X_pure (hC) rfl ?_|refine X_pure (c1) rfl ?_)|((with_reducible apply q_callG);refine X_pureG ((fun _ => c2)) rfl ?_ ?_)|((with_reducible apply q_callG);refine X_pureG ((fun _ => c3)) rfl ?_ ?_)|((with_reducible apply q_callG);refine X_pureG ((fun _ => c4)) rfl ?_ ?_)|with_reducible (first|refine W_seq ?_|refine W_block ?_)|((with_reducible apply q_cond);refine X_cond rfl ?_ ?_;all_goals (intro hbq;(try simp only [bq] at hbq);(try (exfalso;omega))))|refine Rex.o (by (with_reducible constructor);apply Eq.refl) ?_|(intro (hgq : (_ : Bool) = true);(try simp only [bq] at hgq))|(intro (hgq : (_ : Bool) = false);(try simp only [bq] at hgq))|((with_reducible apply q_VOk);exact fun _ => ⟨rfl,rfl⟩)|((with_reducible apply q_bt);simp only [bq])|(simp only [hgq,bq];done)|omega)
    ·
     refine LoopK_n (i + 1) ?_ (⟨by omega, hR⟩) (by (try dsimp only); omega)
     refine X_weak rfl rfl rfl ?_ ?_ <;> repeat' (first|with_reducible (first|refine Wk.o (by constructor) ?_|refine q_and ?_ ?_|exact True.intro)|refine q_AgS rfl ?_ ?_|exact (rfl : known _ = _)|omega)
   ·rw [secs_4 hil hz2 hb] at hR
    have hq : ¬ secB L.sts.length (L.secs.getD (i : Int).toNat sec0) = true := hb
    unfold secB at hq
    rw [decide_eq_true_eq] at hq
    have hR4 : R = 4 := hR
    subst hR4
    repeat' (first|with_reducible (first|refine q_and ?_ ?_|exact True.intro|refine Red.o (by constructor) ?_|assumption)|((with_reducible apply q_call);first|refine X_pure (hC) rfl ?_|refine X_pure (c1) rfl ?_)|((with_reducible apply q_callG);refine X_pureG ((fun _ => c2)) rfl ?_ ?_)|((with_reducible apply q_callG);refine X_pureG ((fun _ => c3)) rfl ?_ ?_)|((with_reducible apply q_callG);refine X_pureG ((fun _ => c4)) rfl ?_ ?_)|with_reducible (first|refine W_seq ?_|refine W_block ?_)|((with_reducible apply q_cond);refine X_cond rfl ?_ ?_;all_goals (intro hbq;(try simp only [bq] at hbq);(try (exfalso;omega))))|refine Rex.o (by (with_reducible constructor);apply Eq.refl) ?_|(intro (hgq : (_ : Bool) = true);(try simp only [bq] at hgq))|(intro (hgq : (_ : Bool) = false);(try simp only [bq] at hgq))|((with_reducible apply q_VOk);exact fun _ => ⟨rfl,rfl⟩)|((with_reducible apply q_bt);simp only [bq])|(simp only [hgq,bq];done)|omega)
    all_goals rfl
  ·rw [secs_1 hil hz2, orErr_n hz2] at hR
   rw [← hR] at hC hz2
   repeat' (first|with_reducible (first|refine q_and ?_ ?_|exact True.intro|refine Red.o (by constructor) ?_|fail)|((with_reducible apply q_call);refine X_pure (hC) rfl ?_)|with_reducible (first|refine W_seq ?_|refine W_block ?_)|((with_reducible apply q_cond);refine X_cond rfl ?_ ?_;all_goals (intro hbq;(try simp only [bq] at hbq);(try (exfalso;omega))))|refine Rex.o (by (with_reducible constructor);apply Eq.refl) ?_|fail)
   all_goals rfl
 have hie : i = L.secs.length := by omega
 subst hie
 rw [List.drop_length, secsErr, orErr_z] at hR
 repeat' (first|with_reducible (first|refine q_and ?_ ?_|exact True.intro|refine Red.o (by constructor) ?_|fail)|with_reducible (first|refine W_seq ?_|refine W_block ?_)|((with_reducible apply q_cond);refine X_cond rfl ?_ ?_;all_goals (intro hbq;(try simp only [bq] at hbq);(try (exfalso;omega))))|refine Rex.o (by (with_reducible constructor);apply Eq.refl) ?_|fail)
 refine W_loopS (fun i : Nat => SS [sC 1 (pB 0), sI 11 i] [some (.cells [rStr L.sts, rStr L.pts, rSec L.secs, rLnk L.lnks])]) (fun i => i ≤ L.lnks.length ∧ R = linksErr L.secs.length L.pts.length (L.lnks.take i) (L.lnks.drop i)) (fun i => L.lnks.length - i) 0 ?_ ⟨by omega, hR⟩ ?_
 ·
  refine X_weak rfl rfl rfl ?_ ?_ <;> repeat' (first|with_reducible (first|refine Wk.o (by constructor) ?_|refine q_and ?_ ?_|exact True.intro)|refine q_AgS rfl ?_ ?_|exact (rfl : known _ = _)|omega)
 clear hR
 rintro i ⟨hi4, hR⟩
 by_cases hil : i < L.lnks.length
 ·have hC := hK i hil
  by_cases hz2 : linkErr L.secs.length L.pts.length (L.lnks.take i) (L.lnks.getD i lnk0) = 0
  ·rw [hz2] at hC
   rw [links_0 hil hz2] at hR
   repeat' (first|with_reducible (first|refine q_and ?_ ?_|exact True.intro|refine Red.o (by constructor) ?_|fail)|((with_reducible apply q_call);refine X_pure (hC) rfl ?_)|with_reducible (first|refine W_seq ?_|refine W_block ?_)|((with_reducible apply q_cond);refine X_cond rfl ?_ ?_;all_goals (intro hbq;(try simp only [bq] at hbq);(try (exfalso;omega))))|refine Rex.o (by (with_reducible constructor);apply Eq.refl) ?_|omega)
   ·
    refine LoopK_n (i + 1) ?_ (⟨by omega, hR⟩) (by (try dsimp only); omega)
    refine X_weak rfl rfl rfl ?_ ?_ <;> repeat' (first|with_reducible (first|refine Wk.o (by constructor) ?_|refine q_and ?_ ?_|exact True.intro)|refine q_AgS rfl ?_ ?_|exact (rfl : known _ = _)|omega)
  ·rw [links_1 hil hz2] at hR
   rw [← hR] at hC hz2
   repeat' (first|with_reducible (first|refine q_and ?_ ?_|exact True.intro|refine Red.o (by constructor) ?_|fail)|((with_reducible apply q_call);refine X_pure (hC) rfl ?_)|with_reducible (first|refine W_seq ?_|refine W_block ?_)|((with_reducible apply q_cond);refine X_cond rfl ?_ ?_;all_goals (intro hbq;(try simp only [bq] at hbq);(try (exfalso;omega))))|refine Rex.o (by (with_reducible constructor);apply Eq.refl) ?_|fail)
   all_goals rfl
 have hie : i = L.lnks.length := by omega
 subst hie
 rw [List.drop_length, linksErr] at hR
 subst hR
 repeat' (first|with_reducible (first|refine q_and ?_ ?_|exact True.intro|refine Red.o (by constructor) ?_|fail)|with_reducible (refine W_seq ?_)|((with_reducible apply q_cond);refine X_cond rfl ?_ ?_;all_goals (intro hbq;(try simp only [bq] at hbq);(try (exfalso;omega))))|refine Rex.o (by (with_reducible constructor);apply Eq.refl) ?_|fail)
 all_goals rfl
end Go.Proofs.YtalfibohepbhfaaGreat.Av
namespace Go.Proofs.YtalfibohepbhfaaGreat
open Go.RowKit
theorem index_any (a ae : Int) (w : World) (h1 : 0 ≤ a) (h2 : a ≤ 1000000) (h3 : 0 ≤ ae) (h4 : ae ≤ 1) :
  Calls Tryz.prog 117 #[.agg #[.int .i64 a, .int .i64 ae]] w fun e w' => e = .returned (.int .i64 (2 * a + ae)) ∧ Below w.heap.size w w' := by
 go_enter Tryz.func117, Tryz.ntmps117
 go_wp2
 go_ret
 exact ⟨rfl, (Below.refl _ _).alloc (Nat.le_refl _) _⟩
theorem ends_any (k : Lnk) (w : World) :
  Calls Tryz.prog 116 #[.agg #[.int .i64 k.a, .int .i64 k.ae, .int .i64 k.b, .int .i64 k.be, .int .i64 k.pt, .int .i64 k.ps]] w fun e w' => e = .returned (.tuple #[.agg #[.int .i64 k.a, .int .i64 k.ae], .agg #[.int .i64 k.b, .int .i64 k.be]]) ∧ Below w.heap.size w w' := by
 go_enter Tryz.func116, Tryz.ntmps116
 go_wp2
 go_region
 go_wp2
 exact bodyPost_ret (v := .tuple #[.agg #[.int .i64 k.a, .int .i64 k.ae], .agg #[.int .i64 k.b, .int .i64 k.be]]) (by simp [results, Tryz.results116, go_sem]) rfl ⟨rfl, ((((Below.refl _ _).alloc (Nat.le_refl _) _).alloc (by simp) _).alloc (by simp; omega) _).drew⟩
def eqE (x y x' y' : Int) : Bool := decide (x = x' ∧ y = y')
theorem eql_end (x y x' y' : Int) (w : World) : (binOp .eql 209 (.agg #[.int .i64 x, .int .i64 y]) (.agg #[.int .i64 x', .int .i64 y'])).run Tryz.prog w = .ok (.bool (eqE x y x' y')) w := by
 by_cases h : x = x' <;> by_cases h2 : y = y' <;> simp [go_sem, eqE, h, h2]
def joinsB (a ae b be : Int) (k : Lnk) : Bool := (eqE a ae k.a k.ae && eqE b be k.b k.be) || (eqE a ae k.b k.be && eqE b be k.a k.ae)
theorem any_snoc (ls : List Lnk) (k : Nat) (h : k < ls.length) (p : Lnk → Bool) : (ls.take (k + 1)).any p = ((ls.take k).any p || p ls[k]) := by
 rw [List.take_succ_eq_append_getElem h, List.any_append]; simp
structure JnI (w x : World) (a ae b be : Int) (A : Option Addr) (ls : List Lnk) : Prop where
 ba : BoxV x w.heap.size [.int .i64 a, .int .i64 ae]
 bb : BoxV x (w.heap.size + 1) [.int .i64 b, .int .i64 be]
 rd : RdF 6 lnkF x A ls
 bel : Below w.heap.size w x
theorem JnI.call {w x y : World} {a ae b be : Int} {A : Option Addr} {ls : List Lnk} (h : JnI w x a ae b be A ls) (hb : Below x.heap.size x y) : JnI w y a ae b be A ls :=
 ⟨h.ba.below hb, h.bb.below hb, h.rd.below hb, h.bel.trans (hb.mono h.bel.size)⟩
theorem joined_any (A : Option Addr) (c : Nat) (ls : List Lnk) (a ae b be : Int) (w : World) (hR : RdF 6 lnkF w A ls) (hl : ls.length ≤ 9223372036854775807) :
  Calls Tryz.prog 118 #[.slice A ls.length c, .agg #[.int .i64 a, .int .i64 ae], .agg #[.int .i64 b, .int .i64 be]] w fun e w' => e = .returned (.bool (ls.any (joinsB a ae b be))) ∧ Below w.heap.size w w' := by
 have hb0 : Below w.heap.size w (w.alloc (.cells #[.int .i64 a, .int .i64 ae] 209)) := (Below.refl _ _).alloc (Nat.le_refl _) _
 have hb1 := (Below.refl _ (w.alloc (.cells #[.int .i64 a, .int .i64 ae] 209))).alloc (Nat.le_refl _) (.cells #[.int .i64 b, .int .i64 be] 209)
 have HI : Hid (JnI w ((w.alloc (.cells #[.int .i64 a, .int .i64 ae] 209)).alloc (.cells #[.int .i64 b, .int .i64 be] 209)) a ae b be A ls) := Lib.hid
  ⟨(BoxV.new w [.int .i64 a, .int .i64 ae] 209).below hb1, (by have := BoxV.new (w.alloc (.cells #[.int .i64 a, .int .i64 ae] 209)) [.int .i64 b, .int .i64 be] 209; simpa using this), (hR.below hb0).below hb1, hb0.trans (hb1.mono hb0.size)⟩
 clear hR hb0 hb1
 have heq := eql_end
 go_enter Tryz.func118, Tryz.ntmps118
 go_wp2
 go_loopw [13] (fun i wr => ∃ k : Nat, k ≤ ls.length ∧ i = .int .i64 k ∧ Hid ((ls.take k).any (joinsB a ae b be) = false) ∧ Hid (JnI w wr a ae b be A ls)) (fun i _ => ls.length - (intOf i).toNat)
 case atStart => exact ⟨0, by omega, rfl, Lib.hid rfl, HI⟩
 case round =>
  obtain ⟨k, hk, rfl, Hk, HI2⟩ := hrel
  by_cases hlt : k < ls.length
  ·have Hsn := Lib.hid (any_snoc ls k hlt (joinsB a ae b be))
   obtain ⟨bb, off, rfl, hbl, hc⟩ := HI2.out.rd k hlt
   obtain ⟨j, Hj⟩ : ∃ j, Hid (ls[k] = j) := ⟨_, Lib.hid rfl⟩
   rw [Hj.out] at hc Hsn
   have q0 := hc 0 _ rfl
   have q1 := hc 1 _ rfl
   have q2 := hc 2 _ rfl
   have q3 := hc 3 _ rfl
   have q4 := hc 4 _ rfl
   have q5 := hc 5 _ rfl
   rw [Nat.add_zero] at q0
   clear hc
   have hba : Below wr.heap.size wr (wr.alloc (.cells #[.int .i64 j.a, .int .i64 j.ae, .int .i64 j.b, .int .i64 j.be, .int .i64 j.pt, .int .i64 j.ps] 143)) := (Below.refl _ _).alloc (Nat.le_refl _) _
   have HI3 := Lib.hid (HI2.out.call hba)
   clear HI2 hba
   go_wp2_with fail
   refine (ends_any j _).mono ?_
   rintro e w2 ⟨rfl, hb2⟩
   have HI4 := Lib.hid (HI3.out.call hb2)
   clear q0 q1 q2 q3 q4 q5 hb2 HI3 hbl
   have c0 := HI4.out.ba.2 0 _ rfl
   have c1 := HI4.out.ba.2 1 _ rfl
   have d0 := HI4.out.bb.2 0 _ rfl
   have d1 := HI4.out.bb.2 1 _ rfl
   have g1 := HI4.out.ba.1
   have g2 := HI4.out.bb.1
   have hbn : Below w2.heap.size w2 ((w2.alloc (.cells #[.int .i64 j.a, .int .i64 j.ae] 209)).alloc (.cells #[.int .i64 j.b, .int .i64 j.be] 209)) := ((Below.refl _ _).alloc (Nat.le_refl _) _).alloc (by simp) _
   have HI5 := Lib.hid (HI4.out.call hbn)
   clear hbn
   cases h1 : eqE a ae j.a j.ae
   ·skip
    cases h3 : eqE a ae j.b j.be
    ·skip
     have HJ : Hid (joinsB a ae b be j = false) := Lib.hid (by simp [joinsB, h1, h3])
     go_wp2
     go_roundw
     case rel => exact ⟨k + 1, by omega, by go_num, Lib.hid (by rw [Hsn.out, Hk.out, HJ.out]; rfl), HI5⟩
     case measure => simp [intOf]; omega
    ·cases h4 : eqE b be j.a j.ae
     ·skip
      have HJ : Hid (joinsB a ae b be j = false) := Lib.hid (by simp [joinsB, h1, h3, h4])
      go_wp2
      go_roundw
      case rel => exact ⟨k + 1, by omega, by go_num, Lib.hid (by rw [Hsn.out, Hk.out, HJ.out]; rfl), HI5⟩
      case measure => simp [intOf]; omega
     ·skip
      have HJ : Hid (joinsB a ae b be j = true) := Lib.hid (by simp [joinsB, h1, h3, h4])
      have HA : Hid (ls.any (joinsB a ae b be) = true) := Lib.hid (List.any_eq_true.2 ⟨j, by rw [← Hj.out]; exact List.getElem_mem hlt, HJ.out⟩)
      go_wp2
      go_ret
      exact ⟨ret_bool HA.out.symm, HI5.out.bel⟩
   ·cases h2 : eqE b be j.b j.be
    ·skip
     cases h3 : eqE a ae j.b j.be
     ·skip
      have HJ : Hid (joinsB a ae b be j = false) := Lib.hid (by simp [joinsB, h1, h2, h3])
      go_wp2
      go_roundw
      case rel => exact ⟨k + 1, by omega, by go_num, Lib.hid (by rw [Hsn.out, Hk.out, HJ.out]; rfl), HI5⟩
      case measure => simp [intOf]; omega
     ·cases h4 : eqE b be j.a j.ae
      ·skip
       have HJ : Hid (joinsB a ae b be j = false) := Lib.hid (by simp [joinsB, h1, h2, h3, h4])
       go_wp2
       go_roundw
       case rel => exact ⟨k + 1, by omega, by go_num, Lib.hid (by rw [Hsn.out, Hk.out, HJ.out]; rfl), HI5⟩
       case measure => simp [intOf]; omega
      ·skip
       have HJ : Hid (joinsB a ae b be j = true) := Lib.hid (by simp [joinsB, h1, h2, h3, h4])
       have HA : Hid (ls.any (joinsB a ae b be) = true) := Lib.hid (List.any_eq_true.2 ⟨j, by rw [← Hj.out]; exact List.getElem_mem hlt, HJ.out⟩)
       go_wp2
       go_ret
       exact ⟨ret_bool HA.out.symm, HI5.out.bel⟩
    ·skip
     have HJ : Hid (joinsB a ae b be j = true) := Lib.hid (by simp [joinsB, h1, h2])
     have HA : Hid (ls.any (joinsB a ae b be) = true) := Lib.hid (List.any_eq_true.2 ⟨j, by rw [← Hj.out]; exact List.getElem_mem hlt, HJ.out⟩)
     go_wp2
     go_ret
     exact ⟨ret_bool HA.out.symm, HI5.out.bel⟩
  ·have HA : Hid (ls.any (joinsB a ae b be) = false) := Lib.hid (by have := Hk.out; rwa [List.take_of_length_le (by omega)] at this)
   go_wp2
   go_ret
   exact ⟨ret_bool HA.out.symm, HI2.out.bel⟩
end Go.Proofs.YtalfibohepbhfaaGreat
namespace Go.Proofs.YtalfibohepbhfaaGreat
open Go.RowKit
theorem fitB_one {k j : Lnk} : fitB k [j] = decide (k.pt ≠ -1 ∧ k.pt = j.pt ∧ k.ps ≠ j.ps) := rfl
theorem fits_any (k : Lnk) (A : Option Addr) (c : Nat) (ls : List Lnk) (w : World) (hR : RdF 6 lnkF w A ls) (hl : ls.length ≤ 9223372036854775807) :
  Calls Tryz.prog 119 #[.agg #[.int .i64 k.a, .int .i64 k.ae, .int .i64 k.b, .int .i64 k.be, .int .i64 k.pt, .int .i64 k.ps], .slice A ls.length c] w fun e w' => e = .returned (.bool (fitB k ls)) ∧ Below w.heap.size w w' := by
 obtain ⟨a, ae, b, be, pt, ps⟩ := k
 dsimp only
 match ls, hR, hl with
 | [], _, _ =>
  go_enter Tryz.func119, Tryz.ntmps119
  go_wp2
  go_ret
  exact ⟨rfl, (Below.refl _ _).alloc (Nat.le_refl _) _⟩
 | i :: j :: r, _, hl =>
  have HF : Hid (fitB ⟨a, ae, b, be, pt, ps⟩ (i :: j :: r) = false) := Lib.hid rfl
  obtain ⟨n, Hn⟩ : ∃ n, Hid ((i :: j :: r).length = n) := ⟨_, Lib.hid rfl⟩
  rw [HF.out, Hn.out]
  have hn : 2 ≤ n := by rw [← Hn.out]; simp
  have e0 : ((n : Int) == 0) = false := by simp; omega
  have e1 : ((n : Int) == 1) = false := by simp; omega
  clear hl
  go_enter Tryz.func119, Tryz.ntmps119
  go_wp2
  go_quiet (fail)
  go_wp2
  go_ret
  exact ⟨rfl, below_draws ((Below.refl _ _).alloc (Nat.le_refl _) _) _⟩
 | [j], hR, _ =>
  obtain ⟨ja, jae, jb, jbe, jpt, jps⟩ := j
  obtain ⟨bb, off, rfl, hbl, hc⟩ := hR 0 (by simp)
  have q4 := hc 4 _ rfl
  have q5 := hc 5 _ rfl
  simp only [Nat.zero_mul, Nat.add_zero] at q4 q5
  clear hc hR
  rw [fitB_one]
  dsimp only
  by_cases h1 : pt = -1
  ·rw [decide_eq_false (by omega)]
   have f1 : (pt != -1) = false := by rw [h1]; rfl
   clear h1
   go_enter Tryz.func119, Tryz.ntmps119
   go_wp2
   go_quiet (fail)
   go_wp2
   go_ret
   exact ⟨rfl, below_draws ((Below.refl _ _).alloc (Nat.le_refl _) _) _⟩
  ·have f1 : (pt != -1) = true := by simpa using h1
   by_cases h2 : pt = jpt
   ·have f2 : (pt == jpt) = true := by simpa using h2
    by_cases h3 : ps = jps
    ·rw [decide_eq_false (by omega)]
     have f3 : (ps != jps) = false := by simpa using h3
     clear h1 h2 h3
     go_enter Tryz.func119, Tryz.ntmps119
     go_wp2
     go_quiet (fail)
     go_wp2
     go_ret
     exact ⟨rfl, below_draws ((Below.refl _ _).alloc (Nat.le_refl _) _) _⟩
    ·rw [decide_eq_true (by omega)]
     have f3 : (ps != jps) = true := by simpa using h3
     clear h1 h2 h3
     go_enter Tryz.func119, Tryz.ntmps119
     go_wp2
     go_quiet (fail)
     go_wp2
     go_ret
     exact ⟨rfl, below_draws ((Below.refl _ _).alloc (Nat.le_refl _) _) _⟩
   ·rw [decide_eq_false (by omega)]
    have f2 : (pt == jpt) = false := by simpa using h2
    clear h1 h2
    go_enter Tryz.func119, Tryz.ntmps119
    go_wp2
    go_quiet (fail)
    go_wp2
    go_ret
    exact ⟨rfl, below_draws ((Below.refl _ _).alloc (Nat.le_refl _) _) _⟩
end Go.Proofs.YtalfibohepbhfaaGreat
namespace Go.Proofs.YtalfibohepbhfaaGreat
open Go.RowKit
theorem linkB_false {nsec npt : Nat} {k : Lnk} (h : ¬ (0 ≤ k.a ∧ k.a < nsec ∧ 0 ≤ k.b ∧ k.b < nsec ∧ 0 ≤ k.ae ∧ k.ae ≤ 1 ∧ 0 ≤ k.be ∧ k.be ≤ 1 ∧ -1 ≤ k.pt ∧ k.pt < npt ∧ 0 ≤ k.ps ∧ k.ps ≤ 1 ∧ (k.pt ≠ -1 ∨ k.ps = 0))) : linkB nsec npt k = false := decide_eq_false h
theorem linkB_true {nsec npt : Nat} {k : Lnk} (h : 0 ≤ k.a ∧ k.a < nsec ∧ 0 ≤ k.b ∧ k.b < nsec ∧ 0 ≤ k.ae ∧ k.ae ≤ 1 ∧ 0 ≤ k.be ∧ k.be ≤ 1 ∧ -1 ≤ k.pt ∧ k.pt < npt ∧ 0 ≤ k.ps ∧ k.ps ≤ 1 ∧ (k.pt ≠ -1 ∨ k.ps = 0)) : linkB nsec npt k = true := decide_eq_true h
theorem eq01 (n : Int) : ((n == 0) = true ∧ n = 0) ∨ ((n == 0) = false ∧ (n == 1) = true ∧ n = 1) ∨ ((n == 0) = false ∧ (n == 1) = false ∧ n ≠ 0 ∧ n ≠ 1) := by
 by_cases h : n = 0
 ·left; exact ⟨by rw [h]; rfl, h⟩
 ·by_cases h1 : n = 1
  ·right; left; exact ⟨by simpa using h, by rw [h1]; rfl, h1⟩
  ·right; right; exact ⟨by simpa using h, by simpa using h1, h, h1⟩
theorem neq1 (n : Int) : ((n != -1) = true ∧ n ≠ -1) ∨ ((n != -1) = false ∧ n = -1) := by
 by_cases h : n = -1
 ·right; exact ⟨by rw [h]; rfl, h⟩
 ·left; exact ⟨by simpa using h, h⟩
set_option maxHeartbeats 2000000 in
set_option maxRecDepth 100000 in
theorem linkInRange_any (V : LayV) (L : Lay) (k : Lnk) (w : World) :
  Calls Tryz.prog 115 #[.agg #[.slice V.A1 L.sts.length V.c1, .slice V.A2 L.pts.length V.c2, .slice V.A3 L.secs.length V.c3, .slice V.A4 L.lnks.length V.c4], .agg #[.int .i64 k.a, .int .i64 k.ae, .int .i64 k.b, .int .i64 k.be, .int .i64 k.pt, .int .i64 k.ps]] w fun e w' => e = .returned (.bool (linkB L.secs.length L.pts.length k)) ∧ Below w.heap.size w w' := by
 obtain ⟨a, ae, b, be, pt, ps⟩ := k
 dsimp only
 by_cases h1 : 0 ≤ a
 rotate_left
 ·have h1' : decide (0 ≤ a) = false := decide_eq_false h1
  have HE := Lib.hid (linkB_false (nsec := L.secs.length) (npt := L.pts.length) (k := ⟨a, ae, b, be, pt, ps⟩) (by dsimp only; omega))
  (go_enter Tryz.func115, Tryz.ntmps115); simp only [List.append_eq, List.cons_append, List.nil_append]
  go_wp2
  go_ret
  exact ⟨ret_bool HE.out.symm, ((Below.refl _ _).alloc (Nat.le_refl _) _).alloc (by simp) _⟩
 ·skip
  by_cases h2 : a < L.secs.length
  rotate_left
  ·have h2' : decide (a < (L.secs.length : Int)) = false := decide_eq_false h2
   have HE := Lib.hid (linkB_false (nsec := L.secs.length) (npt := L.pts.length) (k := ⟨a, ae, b, be, pt, ps⟩) (by dsimp only; omega))
   (go_enter Tryz.func115, Tryz.ntmps115); simp only [List.append_eq, List.cons_append, List.nil_append]
   go_wp2
   go_ret
   exact ⟨ret_bool HE.out.symm, ((Below.refl _ _).alloc (Nat.le_refl _) _).alloc (by simp) _⟩
  ·skip
   by_cases h3 : 0 ≤ b
   rotate_left
   ·have h3' : decide (0 ≤ b) = false := decide_eq_false h3
    have HE := Lib.hid (linkB_false (nsec := L.secs.length) (npt := L.pts.length) (k := ⟨a, ae, b, be, pt, ps⟩) (by dsimp only; omega))
    (go_enter Tryz.func115, Tryz.ntmps115); simp only [List.append_eq, List.cons_append, List.nil_append]
    go_wp2
    go_ret
    exact ⟨ret_bool HE.out.symm, ((Below.refl _ _).alloc (Nat.le_refl _) _).alloc (by simp) _⟩
   ·skip
    by_cases h4 : b < L.secs.length
    rotate_left
    ·have h4' : decide (b < (L.secs.length : Int)) = false := decide_eq_false h4
     have HE := Lib.hid (linkB_false (nsec := L.secs.length) (npt := L.pts.length) (k := ⟨a, ae, b, be, pt, ps⟩) (by dsimp only; omega))
     (go_enter Tryz.func115, Tryz.ntmps115); simp only [List.append_eq, List.cons_append, List.nil_append]
     go_wp2
     go_ret
     exact ⟨ret_bool HE.out.symm, ((Below.refl _ _).alloc (Nat.le_refl _) _).alloc (by simp) _⟩
    ·skip
     rcases eq01 ae with ⟨xae, eae⟩ | ⟨xae, yae, eae⟩ | ⟨xae, yae, eae, fae⟩
     ·skip
      rcases eq01 be with ⟨xbe, ebe⟩ | ⟨xbe, ybe, ebe⟩ | ⟨xbe, ybe, ebe, fbe⟩
      ·skip
       by_cases h7 : -1 ≤ pt
       rotate_left
       ·have h7' : decide (-1 ≤ pt) = false := decide_eq_false h7
        have HE := Lib.hid (linkB_false (nsec := L.secs.length) (npt := L.pts.length) (k := ⟨a, ae, b, be, pt, ps⟩) (by dsimp only; omega))
        clear eae ebe
        (go_enter Tryz.func115, Tryz.ntmps115); simp only [List.append_eq, List.cons_append, List.nil_append]
        go_wp2
        go_ret
        exact ⟨ret_bool HE.out.symm, ((Below.refl _ _).alloc (Nat.le_refl _) _).alloc (by simp) _⟩
       ·skip
        by_cases h8 : pt < L.pts.length
        rotate_left
        ·have h8' : decide (pt < (L.pts.length : Int)) = false := decide_eq_false h8
         have HE := Lib.hid (linkB_false (nsec := L.secs.length) (npt := L.pts.length) (k := ⟨a, ae, b, be, pt, ps⟩) (by dsimp only; omega))
         clear eae ebe
         (go_enter Tryz.func115, Tryz.ntmps115); simp only [List.append_eq, List.cons_append, List.nil_append]
         go_wp2
         go_ret
         exact ⟨ret_bool HE.out.symm, ((Below.refl _ _).alloc (Nat.le_refl _) _).alloc (by simp) _⟩
        ·skip
         rcases eq01 ps with ⟨xps, eps⟩ | ⟨xps, yps, eps⟩ | ⟨xps, yps, eps, fps⟩
         ·skip
          have HE := Lib.hid (linkB_true (nsec := L.secs.length) (npt := L.pts.length) (k := ⟨a, ae, b, be, pt, ps⟩) (by dsimp only; omega))
          clear eae ebe eps
          (go_enter Tryz.func115, Tryz.ntmps115); simp only [List.append_eq, List.cons_append, List.nil_append]
          go_wp2
          go_ret
          exact ⟨ret_bool HE.out.symm, ((Below.refl _ _).alloc (Nat.le_refl _) _).alloc (by simp) _⟩
         ·rcases neq1 pt with ⟨xpt, ept⟩ | ⟨xpt, ept⟩
          ·skip
           have HE := Lib.hid (linkB_true (nsec := L.secs.length) (npt := L.pts.length) (k := ⟨a, ae, b, be, pt, ps⟩) (by dsimp only; omega))
           clear eae ebe eps ept
           (go_enter Tryz.func115, Tryz.ntmps115); simp only [List.append_eq, List.cons_append, List.nil_append]
           go_wp2
           go_ret
           exact ⟨ret_bool HE.out.symm, ((Below.refl _ _).alloc (Nat.le_refl _) _).alloc (by simp) _⟩
          ·skip
           have HE := Lib.hid (linkB_false (nsec := L.secs.length) (npt := L.pts.length) (k := ⟨a, ae, b, be, pt, ps⟩) (by dsimp only; omega))
           clear eae ebe eps ept
           (go_enter Tryz.func115, Tryz.ntmps115); simp only [List.append_eq, List.cons_append, List.nil_append]
           go_wp2
           go_ret
           exact ⟨ret_bool HE.out.symm, ((Below.refl _ _).alloc (Nat.le_refl _) _).alloc (by simp) _⟩
         ·skip
          have HE := Lib.hid (linkB_false (nsec := L.secs.length) (npt := L.pts.length) (k := ⟨a, ae, b, be, pt, ps⟩) (by dsimp only; omega))
          clear eae ebe eps fps
          (go_enter Tryz.func115, Tryz.ntmps115); simp only [List.append_eq, List.cons_append, List.nil_append]
          go_wp2
          go_ret
          exact ⟨ret_bool HE.out.symm, ((Below.refl _ _).alloc (Nat.le_refl _) _).alloc (by simp) _⟩
      ·skip
       by_cases h7 : -1 ≤ pt
       rotate_left
       ·have h7' : decide (-1 ≤ pt) = false := decide_eq_false h7
        have HE := Lib.hid (linkB_false (nsec := L.secs.length) (npt := L.pts.length) (k := ⟨a, ae, b, be, pt, ps⟩) (by dsimp only; omega))
        clear eae ebe
        (go_enter Tryz.func115, Tryz.ntmps115); simp only [List.append_eq, List.cons_append, List.nil_append]
        go_wp2
        go_ret
        exact ⟨ret_bool HE.out.symm, ((Below.refl _ _).alloc (Nat.le_refl _) _).alloc (by simp) _⟩
       ·skip
        by_cases h8 : pt < L.pts.length
        rotate_left
        ·have h8' : decide (pt < (L.pts.length : Int)) = false := decide_eq_false h8
         have HE := Lib.hid (linkB_false (nsec := L.secs.length) (npt := L.pts.length) (k := ⟨a, ae, b, be, pt, ps⟩) (by dsimp only; omega))
         clear eae ebe
         (go_enter Tryz.func115, Tryz.ntmps115); simp only [List.append_eq, List.cons_append, List.nil_append]
         go_wp2
         go_ret
         exact ⟨ret_bool HE.out.symm, ((Below.refl _ _).alloc (Nat.le_refl _) _).alloc (by simp) _⟩
        ·skip
         rcases eq01 ps with ⟨xps, eps⟩ | ⟨xps, yps, eps⟩ | ⟨xps, yps, eps, fps⟩
         ·skip
          have HE := Lib.hid (linkB_true (nsec := L.secs.length) (npt := L.pts.length) (k := ⟨a, ae, b, be, pt, ps⟩) (by dsimp only; omega))
          clear eae ebe eps
          (go_enter Tryz.func115, Tryz.ntmps115); simp only [List.append_eq, List.cons_append, List.nil_append]
          go_wp2
          go_ret
          exact ⟨ret_bool HE.out.symm, ((Below.refl _ _).alloc (Nat.le_refl _) _).alloc (by simp) _⟩
         ·rcases neq1 pt with ⟨xpt, ept⟩ | ⟨xpt, ept⟩
          ·skip
           have HE := Lib.hid (linkB_true (nsec := L.secs.length) (npt := L.pts.length) (k := ⟨a, ae, b, be, pt, ps⟩) (by dsimp only; omega))
           clear eae ebe eps ept
           (go_enter Tryz.func115, Tryz.ntmps115); simp only [List.append_eq, List.cons_append, List.nil_append]
           go_wp2
           go_ret
           exact ⟨ret_bool HE.out.symm, ((Below.refl _ _).alloc (Nat.le_refl _) _).alloc (by simp) _⟩
          ·skip
           have HE := Lib.hid (linkB_false (nsec := L.secs.length) (npt := L.pts.length) (k := ⟨a, ae, b, be, pt, ps⟩) (by dsimp only; omega))
           clear eae ebe eps ept
           (go_enter Tryz.func115, Tryz.ntmps115); simp only [List.append_eq, List.cons_append, List.nil_append]
           go_wp2
           go_ret
           exact ⟨ret_bool HE.out.symm, ((Below.refl _ _).alloc (Nat.le_refl _) _).alloc (by simp) _⟩
         ·skip
          have HE := Lib.hid (linkB_false (nsec := L.secs.length) (npt := L.pts.length) (k := ⟨a, ae, b, be, pt, ps⟩) (by dsimp only; omega))
          clear eae ebe eps fps
          (go_enter Tryz.func115, Tryz.ntmps115); simp only [List.append_eq, List.cons_append, List.nil_append]
          go_wp2
          go_ret
          exact ⟨ret_bool HE.out.symm, ((Below.refl _ _).alloc (Nat.le_refl _) _).alloc (by simp) _⟩
      ·skip
       have HE := Lib.hid (linkB_false (nsec := L.secs.length) (npt := L.pts.length) (k := ⟨a, ae, b, be, pt, ps⟩) (by dsimp only; omega))
       clear eae ebe fbe
       (go_enter Tryz.func115, Tryz.ntmps115); simp only [List.append_eq, List.cons_append, List.nil_append]
       go_wp2
       go_ret
       exact ⟨ret_bool HE.out.symm, ((Below.refl _ _).alloc (Nat.le_refl _) _).alloc (by simp) _⟩
     ·skip
      rcases eq01 be with ⟨xbe, ebe⟩ | ⟨xbe, ybe, ebe⟩ | ⟨xbe, ybe, ebe, fbe⟩
      ·skip
       by_cases h7 : -1 ≤ pt
       rotate_left
       ·have h7' : decide (-1 ≤ pt) = false := decide_eq_false h7
        have HE := Lib.hid (linkB_false (nsec := L.secs.length) (npt := L.pts.length) (k := ⟨a, ae, b, be, pt, ps⟩) (by dsimp only; omega))
        clear eae ebe
        (go_enter Tryz.func115, Tryz.ntmps115); simp only [List.append_eq, List.cons_append, List.nil_append]
        go_wp2
        go_ret
        exact ⟨ret_bool HE.out.symm, ((Below.refl _ _).alloc (Nat.le_refl _) _).alloc (by simp) _⟩
       ·skip
        by_cases h8 : pt < L.pts.length
        rotate_left
        ·have h8' : decide (pt < (L.pts.length : Int)) = false := decide_eq_false h8
         have HE := Lib.hid (linkB_false (nsec := L.secs.length) (npt := L.pts.length) (k := ⟨a, ae, b, be, pt, ps⟩) (by dsimp only; omega))
         clear eae ebe
         (go_enter Tryz.func115, Tryz.ntmps115); simp only [List.append_eq, List.cons_append, List.nil_append]
         go_wp2
         go_ret
         exact ⟨ret_bool HE.out.symm, ((Below.refl _ _).alloc (Nat.le_refl _) _).alloc (by simp) _⟩
        ·skip
         rcases eq01 ps with ⟨xps, eps⟩ | ⟨xps, yps, eps⟩ | ⟨xps, yps, eps, fps⟩
         ·skip
          have HE := Lib.hid (linkB_true (nsec := L.secs.length) (npt := L.pts.length) (k := ⟨a, ae, b, be, pt, ps⟩) (by dsimp only; omega))
          clear eae ebe eps
          (go_enter Tryz.func115, Tryz.ntmps115); simp only [List.append_eq, List.cons_append, List.nil_append]
          go_wp2
          go_ret
          exact ⟨ret_bool HE.out.symm, ((Below.refl _ _).alloc (Nat.le_refl _) _).alloc (by simp) _⟩
         ·rcases neq1 pt with ⟨xpt, ept⟩ | ⟨xpt, ept⟩
          ·skip
           have HE := Lib.hid (linkB_true (nsec := L.secs.length) (npt := L.pts.length) (k := ⟨a, ae, b, be, pt, ps⟩) (by dsimp only; omega))
           clear eae ebe eps ept
           (go_enter Tryz.func115, Tryz.ntmps115); simp only [List.append_eq, List.cons_append, List.nil_append]
           go_wp2
           go_ret
           exact ⟨ret_bool HE.out.symm, ((Below.refl _ _).alloc (Nat.le_refl _) _).alloc (by simp) _⟩
          ·skip
           have HE := Lib.hid (linkB_false (nsec := L.secs.length) (npt := L.pts.length) (k := ⟨a, ae, b, be, pt, ps⟩) (by dsimp only; omega))
           clear eae ebe eps ept
           (go_enter Tryz.func115, Tryz.ntmps115); simp only [List.append_eq, List.cons_append, List.nil_append]
           go_wp2
           go_ret
           exact ⟨ret_bool HE.out.symm, ((Below.refl _ _).alloc (Nat.le_refl _) _).alloc (by simp) _⟩
         ·skip
          have HE := Lib.hid (linkB_false (nsec := L.secs.length) (npt := L.pts.length) (k := ⟨a, ae, b, be, pt, ps⟩) (by dsimp only; omega))
          clear eae ebe eps fps
          (go_enter Tryz.func115, Tryz.ntmps115); simp only [List.append_eq, List.cons_append, List.nil_append]
          go_wp2
          go_ret
          exact ⟨ret_bool HE.out.symm, ((Below.refl _ _).alloc (Nat.le_refl _) _).alloc (by simp) _⟩
      ·skip
       by_cases h7 : -1 ≤ pt
       rotate_left
       ·have h7' : decide (-1 ≤ pt) = false := decide_eq_false h7
        have HE := Lib.hid (linkB_false (nsec := L.secs.length) (npt := L.pts.length) (k := ⟨a, ae, b, be, pt, ps⟩) (by dsimp only; omega))
        clear eae ebe
        (go_enter Tryz.func115, Tryz.ntmps115); simp only [List.append_eq, List.cons_append, List.nil_append]
        go_wp2
        go_ret
        exact ⟨ret_bool HE.out.symm, ((Below.refl _ _).alloc (Nat.le_refl _) _).alloc (by simp) _⟩
       ·skip
        by_cases h8 : pt < L.pts.length
        rotate_left
        ·have h8' : decide (pt < (L.pts.length : Int)) = false := decide_eq_false h8
         have HE := Lib.hid (linkB_false (nsec := L.secs.length) (npt := L.pts.length) (k := ⟨a, ae, b, be, pt, ps⟩) (by dsimp only; omega))
         clear eae ebe
         (go_enter Tryz.func115, Tryz.ntmps115); simp only [List.append_eq, List.cons_append, List.nil_append]
         go_wp2
         go_ret
         exact ⟨ret_bool HE.out.symm, ((Below.refl _ _).alloc (Nat.le_refl _) _).alloc (by simp) _⟩
        ·skip
         rcases eq01 ps with ⟨xps, eps⟩ | ⟨xps, yps, eps⟩ | ⟨xps, yps, eps, fps⟩
         ·skip
          have HE := Lib.hid (linkB_true (nsec := L.secs.length) (npt := L.pts.length) (k := ⟨a, ae, b, be, pt, ps⟩) (by dsimp only; omega))
          clear eae ebe eps
          (go_enter Tryz.func115, Tryz.ntmps115); simp only [List.append_eq, List.cons_append, List.nil_append]
          go_wp2
          go_ret
          exact ⟨ret_bool HE.out.symm, ((Below.refl _ _).alloc (Nat.le_refl _) _).alloc (by simp) _⟩
         ·rcases neq1 pt with ⟨xpt, ept⟩ | ⟨xpt, ept⟩
          ·skip
           have HE := Lib.hid (linkB_true (nsec := L.secs.length) (npt := L.pts.length) (k := ⟨a, ae, b, be, pt, ps⟩) (by dsimp only; omega))
           clear eae ebe eps ept
           (go_enter Tryz.func115, Tryz.ntmps115); simp only [List.append_eq, List.cons_append, List.nil_append]
           go_wp2
           go_ret
           exact ⟨ret_bool HE.out.symm, ((Below.refl _ _).alloc (Nat.le_refl _) _).alloc (by simp) _⟩
          ·skip
           have HE := Lib.hid (linkB_false (nsec := L.secs.length) (npt := L.pts.length) (k := ⟨a, ae, b, be, pt, ps⟩) (by dsimp only; omega))
           clear eae ebe eps ept
           (go_enter Tryz.func115, Tryz.ntmps115); simp only [List.append_eq, List.cons_append, List.nil_append]
           go_wp2
           go_ret
           exact ⟨ret_bool HE.out.symm, ((Below.refl _ _).alloc (Nat.le_refl _) _).alloc (by simp) _⟩
         ·skip
          have HE := Lib.hid (linkB_false (nsec := L.secs.length) (npt := L.pts.length) (k := ⟨a, ae, b, be, pt, ps⟩) (by dsimp only; omega))
          clear eae ebe eps fps
          (go_enter Tryz.func115, Tryz.ntmps115); simp only [List.append_eq, List.cons_append, List.nil_append]
          go_wp2
          go_ret
          exact ⟨ret_bool HE.out.symm, ((Below.refl _ _).alloc (Nat.le_refl _) _).alloc (by simp) _⟩
      ·skip
       have HE := Lib.hid (linkB_false (nsec := L.secs.length) (npt := L.pts.length) (k := ⟨a, ae, b, be, pt, ps⟩) (by dsimp only; omega))
       clear eae ebe fbe
       (go_enter Tryz.func115, Tryz.ntmps115); simp only [List.append_eq, List.cons_append, List.nil_append]
       go_wp2
       go_ret
       exact ⟨ret_bool HE.out.symm, ((Below.refl _ _).alloc (Nat.le_refl _) _).alloc (by simp) _⟩
     ·skip
      have HE := Lib.hid (linkB_false (nsec := L.secs.length) (npt := L.pts.length) (k := ⟨a, ae, b, be, pt, ps⟩) (by dsimp only; omega))
      clear eae fae
      (go_enter Tryz.func115, Tryz.ntmps115); simp only [List.append_eq, List.cons_append, List.nil_append]
      go_wp2
      go_ret
      exact ⟨ret_bool HE.out.symm, ((Below.refl _ _).alloc (Nat.le_refl _) _).alloc (by simp) _⟩
end Go.Proofs.YtalfibohepbhfaaGreat
namespace Go.Proofs.YtalfibohepbhfaaGreat
open Go.RowKit
theorem info_links : (Tryz.prog.info? 25).map (fun i => (i.zero, i.size, i.bytes)) = some (some (.slice none 0 0), 1, 24) := by kernel_rfl
theorem info_link : (Tryz.prog.info? 143).map (fun i => (i.zero, i.size, i.bytes)) = some (some (.agg #[.int .i64 0, .int .i64 0, .int .i64 0, .int .i64 0, .int .i64 0, .int .i64 0]), 6, 48) := by kernel_rfl
theorem joins_any {prev : List Lnk} {a ae b be : Int} (hne : ¬ (a = b ∧ ae = be)) : (atE prev (a, ae)).any (joinsB a ae b be) = prev.any (fun j => hasE j (a, ae) && hasE j (b, be)) := by
 have key : ∀ j : Lnk, (hasE j (a, ae) && joinsB a ae b be j) = (hasE j (a, ae) && hasE j (b, be)) := by
  intro j
  rw [Bool.eq_iff_iff]
  simp [hasE, joinsB, eqE]
  omega
 unfold atE
 rw [List.any_filter]
 congr 1
 funext j
 exact key j
structure CkR (w x : World) (n : Nat) (E : Nat → List Lnk) (Vs : Nat → Value) (p5 p6 p7 : Nat) (k : Lnk) : Prop where
 tab : CkI w x n E Vs
 b5 : BoxV x p5 [.int .i64 k.a, .int .i64 k.ae, .int .i64 k.b, .int .i64 k.be, .int .i64 k.pt, .int .i64 k.ps]
 b6 : BoxV x p6 [.int .i64 k.a, .int .i64 k.ae]
 b7 : BoxV x p7 [.int .i64 k.b, .int .i64 k.be]
theorem CkR.call {w x y : World} {n : Nat} {E : Nat → List Lnk} {Vs : Nat → Value} {p5 p6 p7 : Nat} {k : Lnk} (h : CkR w x n E Vs p5 p6 p7 k) (hb : Below x.heap.size x y) : CkR w y n E Vs p5 p6 p7 k :=
 ⟨h.tab.call hb, h.b5.below hb, h.b6.below hb, h.b7.below hb⟩
theorem CkR.drewN {w x : World} {n : Nat} {E : Nat → List Lnk} {Vs : Nat → Value} {p5 p6 p7 : Nat} {k : Lnk} (h : CkR w x n E Vs p5 p6 p7 k) (m : Nat) : CkR w (x.drewN m) n E Vs p5 p6 p7 k :=
 h.call (below_draws (Below.refl _ _) m)
theorem CkI.rdAt {w x : World} {n : Nat} {E : Nat → List Lnk} {Vs : Nat → Value} (h : CkI w x n E Vs) {i : Nat} (hi : i < n) {A : Option Addr} {c : Nat} {Ea : List Lnk} (hV : Vs i = .slice A Ea.length c) (hE : E i = Ea) : RdF 6 lnkF x A Ea := by
 have := h.own i hi
 rw [hV, hE] at this
 exact this.rd lnkF_len
set_option maxHeartbeats 1000000 in
set_option maxRecDepth 100000 in
theorem checkLinks_any (V : LayV) (L : Lay) (w : World) (hR : RdLay w V L) (hs : L.secs.length ≤ 96) (hl : L.lnks.length ≤ 192) :
  Calls Tryz.prog 100 #[.agg #[.slice V.A1 L.sts.length V.c1, .slice V.A2 L.pts.length V.c2, .slice V.A3 L.secs.length V.c3, .slice V.A4 L.lnks.length V.c4]] w fun e w' => e = .returned (.int .i64 (linksErr L.secs.length L.pts.length [] L.lnks)) ∧ Below w.heap.size w w' := by
 obtain ⟨A1, c1, A2, c2, A3, c3, A4, c4⟩ := V
 dsimp only
 obtain ⟨R, HE⟩ : ∃ R, Hid (linksErr L.secs.length L.pts.length [] L.lnks = R) := ⟨_, Lib.hid rfl⟩
 rw [HE.out]
 obtain ⟨n, Hn⟩ : ∃ n, Hid (2 * L.secs.length = n) := ⟨_, Lib.hid rfl⟩
 have hn : n ≤ 192 := by have := Hn.out; omega
 have hni : 2 * (L.secs.length : Int) = (n : Int) := by have := Hn.out; omega
 have hmk := run_make_row' (P := Tryz.prog) 206 25 (.slice none 0 0) 24 Tryz.underlying206 info_links rfl .i64 .i64 n (by omega) (by omega)
 obtain ⟨i0, hi, hz0, hz1, hz2⟩ := info_parts info_link
 have HB0 := Lib.hid (BoxV.new w [.slice A1 L.sts.length c1, .slice A2 L.pts.length c2, .slice A3 L.secs.length c3, .slice A4 L.lnks.length c4] 27)
 have Hb0 : Hid (Below w.heap.size w (w.alloc (.cells #[.slice A1 L.sts.length c1, .slice A2 L.pts.length c2, .slice A3 L.secs.length c3, .slice A4 L.lnks.length c4] 27))) := Lib.hid ((Below.refl _ _).alloc (Nat.le_refl _) _)
 have HR0 := Lib.hid (hR.below Hb0.out)
 have hml : L.lnks.length ≤ 9223372036854775807 := by omega
 clear hR
 have hp0 : (w.alloc (.cells #[.slice A1 L.sts.length c1, .slice A2 L.pts.length c2, .slice A3 L.secs.length c3, .slice A4 L.lnks.length c4] 27)).heap.size = w.heap.size + 1 := by simp
 go_enter Tryz.func100, Tryz.ntmps100
 go_wp2
 clear hmk
 generalize hw0 : w.alloc (.cells #[.slice A1 L.sts.length c1, .slice A2 L.pts.length c2, .slice A3 L.secs.length c3, .slice A4 L.lnks.length c4] 27) = w0 at *
 obtain ⟨p, hp⟩ : ∃ p, w.heap.size = p := ⟨_, rfl⟩
 obtain ⟨r, hr⟩ : ∃ r, p + 1 = r := ⟨_, rfl⟩
 have Hr : Hid (w0.heap.size = r) := Lib.hid (by rw [hp0, hp, hr])
 have HT : Hid (CkI w0 (w0.alloc (.cells (madeCells #[.slice none 0 0] n) 25)) n (atI []) (fun _ => .slice none 0 0)) := Lib.hid (CkI.start (World.rowIs_made w0 (.slice none 0 0) n 25) ((Below.refl _ _).alloc (Nat.le_refl _) _))
 have Hpr : Hid (p < r) := Lib.hid (by omega)
 rw [hp] at HB0
 rw [hp]
 rw [hr]
 clear hw0 hp0 hr
 have Hb0' : Hid (Below p w w0) := Lib.hid (by rw [← hp]; exact Hb0.out)
 clear hp
 generalize w0.alloc (.cells (madeCells #[.slice none 0 0] n) 25) = w1 at *
 go_loopw [18] (fun i wr => ∃ (k : Nat) (Vs : Nat → Value), k ≤ L.lnks.length ∧ i = .int .i64 k ∧ Hid (linksErr L.secs.length L.pts.length (L.lnks.take k) (L.lnks.drop k) = R) ∧ Hid (CkI w0 wr n (atI (L.lnks.take k)) Vs)) (fun i _ => L.lnks.length - (intOf i).toNat)
 case atStart => exact ⟨0, _, by omega, rfl, Lib.hid (by simpa using HE.out), HT⟩
 case round =>
  obtain ⟨k, Vs, hk, rfl, HR, HI⟩ := hrel
  clear HT
  have HB := Lib.hid (HB0.out.below HI.out.bel)
  by_cases hlt : k < L.lnks.length
  ·obtain ⟨b4, o4, hA4, hbl, hc⟩ := (HR0.out.below HI.out.bel).r4 k hlt
   obtain rfl : A4 = some ⟨b4, o4, none⟩ := hA4
   obtain ⟨j, Hj⟩ : ∃ j, Hid (L.lnks[k] = j) := ⟨_, Lib.hid rfl⟩
   have HR' : Hid (linksErr L.secs.length L.pts.length (L.lnks.take k) (j :: L.lnks.drop (k + 1)) = R) := Lib.hid (by rw [← Hj.out, ← List.drop_eq_getElem_cons hlt]; exact HR.out)
   have Htk : Hid (L.lnks.take (k + 1) = L.lnks.take k ++ [j]) := Lib.hid (by rw [List.take_succ_eq_append_getElem hlt, Hj.out])
   rw [Hj.out] at hc
   have q0 := hc 0 _ rfl
   have q1 := hc 1 _ rfl
   have q2 := hc 2 _ rfl
   have q3 := hc 3 _ rfl
   have q4 := hc 4 _ rfl
   have q5 := hc 5 _ rfl
   rw [Nat.add_zero] at q0
   have s0 := HB.out.2 0 _ rfl
   have s1 := HB.out.2 1 _ rfl
   have s2 := HB.out.2 2 _ rfl
   have s3 := HB.out.2 3 _ rfl
   have s4 := HB.out.1
   clear hc HR Hj
   have hba : Below wr.heap.size wr (wr.alloc (.cells #[.int .i64 j.a, .int .i64 j.ae, .int .i64 j.b, .int .i64 j.be, .int .i64 j.pt, .int .i64 j.ps] 143)) := (Below.refl _ _).alloc (Nat.le_refl _) _
   have HI1 := Lib.hid (HI.out.call hba)
   have H5 := Lib.hid (BoxV.new wr [.int .i64 j.a, .int .i64 j.ae, .int .i64 j.b, .int .i64 j.be, .int .i64 j.pt, .int .i64 j.ps] 143)
   obtain ⟨p5, hp5⟩ : ∃ p5, wr.heap.size = p5 := ⟨_, rfl⟩
   have Hold : Hid (∀ i, i < n → ∀ q, (Vs i).ownBlock = some q → q < p5) := Lib.hid (fun i hi q hq => by rw [← hp5]; exact (HI.out.blk hi hq).2)
   have Hrp : Hid (r < p5) := Lib.hid (by rw [← hp5, ← Hr.out]; exact HI.out.row.lt)
   have Hp5 := Lib.hid hp5
   clear hp5
   go_wp2_with fail
   refine (linkInRange_any ⟨A1, c1, A2, c2, A3, c3, some ⟨b4, o4, none⟩, c4⟩ L j _).mono ?_
   rintro e w2 ⟨rfl, hb2⟩
   have HI2 := Lib.hid (HI1.out.call hb2)
   have H52 := Lib.hid (H5.out.below hb2)
   rw [Hp5.out] at H52 ⊢
   clear hb2 HI1 H5 q0 q1 q2 q3 q4 q5 s0 s1 s2 s3 s4 hba HB hbl HI
   cases hin : linkB L.secs.length L.pts.length j
   ·have HF : Hid (R = 4) := Lib.hid (by rw [← HR'.out]; simp [linksErr, linkErr, hin])
    clear hin
    go_wp2
    go_ret
    exact ⟨ret_int HF.out.symm, Hb0.out.trans (HI2.out.bel.mono Hb0.out.size)⟩
   ·obtain ⟨l1, l2, l3, l4, l5, l6, l7, l8, l9, l10, l11, l12, l13⟩ := linkB_of hin
    have Hin := Lib.hid hin
    have H13 := Lib.hid l13
    clear hin l13
    have t0 := H52.out.2 0 _ rfl
    have t1 := H52.out.2 1 _ rfl
    have t2 := H52.out.2 2 _ rfl
    have t3 := H52.out.2 3 _ rfl
    have t4 := H52.out.2 4 _ rfl
    have t5 := H52.out.2 5 _ rfl
    have t6 := H52.out.1
    go_wp2_with fail
    refine (ends_any j _).mono ?_
    rintro e w3 ⟨rfl, hb3⟩
    have hb4 : Below w3.heap.size w3 ((w3.alloc (.cells #[.int .i64 j.a, .int .i64 j.ae] 209)).alloc (.cells #[.int .i64 j.b, .int .i64 j.be] 209)) := ((Below.refl _ _).alloc (Nat.le_refl _) _).alloc (by simp) _
    have hb5 : Below (w3.heap.size + 1) (w3.alloc (.cells #[.int .i64 j.a, .int .i64 j.ae] 209)) ((w3.alloc (.cells #[.int .i64 j.a, .int .i64 j.ae] 209)).alloc (.cells #[.int .i64 j.b, .int .i64 j.be] 209)) := (Below.refl _ _).alloc (by simp) _
    have HC : Hid (CkR w0 ((w3.alloc (.cells #[.int .i64 j.a, .int .i64 j.ae] 209)).alloc (.cells #[.int .i64 j.b, .int .i64 j.be] 209)) n (atI (L.lnks.take k)) Vs p5 w3.heap.size (w3.heap.size + 1) j) := Lib.hid
     ⟨(HI2.out.call hb3).call hb4, (H52.out.below hb3).below hb4, (BoxV.new w3 [.int .i64 j.a, .int .i64 j.ae] 209).below (by simpa using hb5), (by have := BoxV.new (w3.alloc (.cells #[.int .i64 j.a, .int .i64 j.ae] 209)) [.int .i64 j.b, .int .i64 j.be] 209; simpa using this)⟩
    clear hb3 hb4 hb5 HI2 H52 t0 t1 t2 t3 t4 t5 t6
    go_wp2
    obtain ⟨p6, hp6⟩ : ∃ p6, w3.heap.size = p6 := ⟨_, rfl⟩
    obtain ⟨p7, hp7⟩ : ∃ p7, p6 + 1 = p7 := ⟨_, rfl⟩
    rw [hp6, hp7] at HC
    rw [hp6, hp7]
    clear hp6 hp7
    generalize (w3.alloc (.cells #[.int .i64 j.a, .int .i64 j.ae] 209)).alloc (.cells #[.int .i64 j.b, .int .i64 j.be] 209) = W3 at *
    obtain ⟨ia, hia⟩ := Int.eq_ofNat_of_zero_le (show 0 ≤ 2 * j.a + j.ae by omega)
    obtain ⟨ib, hib⟩ := Int.eq_ofNat_of_zero_le (show 0 ≤ 2 * j.b + j.be by omega)
    have ha : ia < n := by have := Hn.out; omega
    have hb : ib < n := by have := Hn.out; omega
    have Hia := Lib.hid hia
    have Hib := Lib.hid hib
    clear hia hib
    obtain ⟨Z, hZ, f, hS, hof⟩ := classOf (fun x => CkR w0 x n (atI (L.lnks.take k)) Vs p5 p6 p7 j) (HC.out.drewN 1)
    have z0 : ∀ z, (f z).cell? ⟨p6, 0, none⟩ = some (.int .i64 j.a) := fun z => (hS z).b6.2 0 _ rfl
    have z1 : ∀ z, (f z).cell? ⟨p6, 1, none⟩ = some (.int .i64 j.ae) := fun z => (hS z).b6.2 1 _ rfl
    have z2 : ∀ z, (f z).cell? ⟨p7, 0, none⟩ = some (.int .i64 j.b) := fun z => (hS z).b7.2 0 _ rfl
    have z3 : ∀ z, (f z).cell? ⟨p7, 1, none⟩ = some (.int .i64 j.be) := fun z => (hS z).b7.2 1 _ rfl
    have HS := Lib.hid hS
    have Hof := Lib.hid hof
    clear hS hof
    refine wp_region_qtail (fun w' => ∃ z : Z, w' = f z) 9 (by kernel_rfl) (by kernel_rfl) (Hof.out _ (HC.out.drewN 1)) ?_
    simp only [List.take_succ_cons, List.take_zero, List.drop_succ_cons, List.drop_zero]
    (repeat (go_big_quiet_step ((go_at_call 117; first
     | with_reducible exact (index_any j.a j.ae _ (by omega) (by omega) (by omega) (by omega)).mono fun e w'' ⟨he, hbb⟩ => ⟨he.trans (ret_int Hia.out), Hof.out _ ((HS.out _).call hbb)⟩
     | with_reducible exact (index_any j.b j.be _ (by omega) (by omega) (by omega) (by omega)).mono fun e w'' ⟨he, hbb⟩ => ⟨he.trans (ret_int Hib.out), Hof.out _ ((HS.out _).call hbb)⟩))))
    refine wpQuiet_nil ?_
    intro w4 hw4
    obtain ⟨z4, hw4⟩ := hw4
    have HC4 := Lib.hid (HS.out z4)
    rw [← hw4] at HC4
    clear hw4 z0 z1 z2 z3 HS Hof HC
    clear hZ f Z z4
    obtain ⟨Ea, HEa⟩ : ∃ Ea, Hid (atI (L.lnks.take k) ia = Ea) := ⟨_, Lib.hid rfl⟩
    obtain ⟨Eb, HEb⟩ : ∃ Eb, Hid (atI (L.lnks.take k) ib = Eb) := ⟨_, Lib.hid rfl⟩
    obtain ⟨Aa, ca, hVa, hca1, hca2⟩ := (HC4.out.tab.own ia ha).shape
    obtain ⟨Ab, cb, hVb, hcb1, hcb2⟩ := (HC4.out.tab.own ib hb).shape
    rw [HEa.out] at hVa hca1
    rw [HEb.out] at hVb hcb1
    have HVa := Lib.hid hVa
    have HVb := Lib.hid hVb
    clear hVa hVb
    have g0 := HC4.out.b6.2 0 _ rfl
    have g1 := HC4.out.b6.2 1 _ rfl
    have g2 := HC4.out.b7.2 0 _ rfl
    have g3 := HC4.out.b7.2 1 _ rfl
    have heq := eql_end
    cases hsame : eqE j.a j.ae j.b j.be
    ·go_wp2
     clear g0 g1 g2 g3 heq
     have hne : ¬ (j.a = j.b ∧ j.ae = j.be) := by simpa [eqE] using hsame
     obtain ⟨J, HJ⟩ : ∃ J, Hid (Ea.any (joinsB j.a j.ae j.b j.be) = J) := ⟨_, Lib.hid rfl⟩
     have Hne := Lib.hid hne
     clear hne hsame
     obtain ⟨Z, hZ, f, hS, hof⟩ := classOf (fun x => CkR w0 x n (atI (L.lnks.take k)) Vs p5 p6 p7 j) (HC4.out.drewN 1)
     have z0 : ∀ z, (f z).cell? ⟨p6, 0, none⟩ = some (.int .i64 j.a) := fun z => (hS z).b6.2 0 _ rfl
     have z1 : ∀ z, (f z).cell? ⟨p6, 1, none⟩ = some (.int .i64 j.ae) := fun z => (hS z).b6.2 1 _ rfl
     have z2 : ∀ z, (f z).cell? ⟨p7, 0, none⟩ = some (.int .i64 j.b) := fun z => (hS z).b7.2 0 _ rfl
     have z3 : ∀ z, (f z).cell? ⟨p7, 1, none⟩ = some (.int .i64 j.be) := fun z => (hS z).b7.2 1 _ rfl
     have z4 : ∀ z, (f z).cell? ⟨p5, 0, none⟩ = some (.int .i64 j.a) := fun z => (hS z).b5.2 0 _ rfl
     have z5 : ∀ z, (f z).cell? ⟨p5, 1, none⟩ = some (.int .i64 j.ae) := fun z => (hS z).b5.2 1 _ rfl
     have z6 : ∀ z, (f z).cell? ⟨p5, 2, none⟩ = some (.int .i64 j.b) := fun z => (hS z).b5.2 2 _ rfl
     have z7 : ∀ z, (f z).cell? ⟨p5, 3, none⟩ = some (.int .i64 j.be) := fun z => (hS z).b5.2 3 _ rfl
     have z8 : ∀ z, (f z).cell? ⟨p5, 4, none⟩ = some (.int .i64 j.pt) := fun z => (hS z).b5.2 4 _ rfl
     have z9 : ∀ z, (f z).cell? ⟨p5, 5, none⟩ = some (.int .i64 j.ps) := fun z => (hS z).b5.2 5 _ rfl
     have za : ∀ z, (f z).cell? ⟨r, ia, none⟩ = some (.slice Aa Ea.length ca) := fun z => by have := (hS z).tab.row.cell (i := ia) ha; rw [HVa.out, Hr.out] at this; exact this
     have zb : ∀ z, (f z).cell? ⟨r, ib, none⟩ = some (.slice Ab Eb.length cb) := fun z => by have := (hS z).tab.row.cell (i := ib) hb; rw [HVb.out, Hr.out] at this; exact this
     have HS := Lib.hid hS
     have Hof := Lib.hid hof
     clear hS hof
     refine wp_region_qtail (fun w' => ∃ z : Z, w' = f z) 6 (by kernel_rfl) (by kernel_rfl) (Hof.out _ (HC4.out.drewN 1)) ?_
     simp only [List.take_succ_cons, List.take_zero, List.drop_succ_cons, List.drop_zero]
     (repeat (go_big_quiet_step ((go_at_call 118; with_reducible exact (joined_any Aa ca Ea j.a j.ae j.b j.be _ ((HS.out _).tab.rdAt ha HVa.out HEa.out) (by omega)).mono fun e w'' ⟨he, hbb⟩ => ⟨he.trans (ret_bool HJ.out), Hof.out _ ((HS.out _).call hbb)⟩))))
     refine wpQuiet_nil ?_
     intro w5 hw4
     obtain ⟨zz, hw4⟩ := hw4
     have HC5 := Lib.hid (HS.out zz)
     rw [← hw4] at HC5
     clear hw4 zz z0 z1 z2 z3 z4 z5 z6 z7 z8 z9 za zb HS Hof HC4 hZ f Z
     have HEa' : Hid (atE (L.lnks.take k) (j.a, j.ae) = Ea) := Lib.hid (by rw [← HEa.out]; unfold atI; rw [endOf_at l1 l5 l6 Hia.out])
     have HEb' : Hid (atE (L.lnks.take k) (j.b, j.be) = Eb) := Lib.hid (by rw [← HEb.out]; unfold atI; rw [endOf_at l3 l7 l8 Hib.out])
     have HJ' : Hid ((L.lnks.take k).any (fun i => hasE i (j.a, j.ae) && hasE i (j.b, j.be)) = J) := Lib.hid (by rw [← joins_any Hne.out, HEa'.out]; exact HJ.out)
     have Hpair : Hid ((j.a, j.ae) ≠ (j.b, j.be)) := Lib.hid (fun h => Hne.out ⟨by injection h, by injection h⟩)
     cases J
     ·obtain ⟨Fa, HFa⟩ : ∃ Fa, Hid (fitB j Ea = Fa) := ⟨_, Lib.hid rfl⟩
      obtain ⟨Fb, HFb⟩ : ∃ Fb, Hid (fitB j Eb = Fb) := ⟨_, Lib.hid rfl⟩
      have HLE : Hid (linkErr L.secs.length L.pts.length (L.lnks.take k) j = if Fa = false ∨ Fb = false then 11 else 0) := Lib.hid (by
       unfold linkErr
       rw [if_neg (by rw [Hin.out]; decide), if_neg Hpair.out, if_neg (by rw [HJ'.out]; decide), HEa'.out, HEb'.out, HFa.out, HFb.out])
      go_wp2
      obtain ⟨Z, hZ, f, hS, hof⟩ := classOf (fun x => CkR w0 x n (atI (L.lnks.take k)) Vs p5 p6 p7 j) (HC5.out.drewN 1)
      have z0 : ∀ z, (f z).cell? ⟨p6, 0, none⟩ = some (.int .i64 j.a) := fun z => (hS z).b6.2 0 _ rfl
      have z1 : ∀ z, (f z).cell? ⟨p6, 1, none⟩ = some (.int .i64 j.ae) := fun z => (hS z).b6.2 1 _ rfl
      have z2 : ∀ z, (f z).cell? ⟨p7, 0, none⟩ = some (.int .i64 j.b) := fun z => (hS z).b7.2 0 _ rfl
      have z3 : ∀ z, (f z).cell? ⟨p7, 1, none⟩ = some (.int .i64 j.be) := fun z => (hS z).b7.2 1 _ rfl
      have z4 : ∀ z, (f z).cell? ⟨p5, 0, none⟩ = some (.int .i64 j.a) := fun z => (hS z).b5.2 0 _ rfl
      have z5 : ∀ z, (f z).cell? ⟨p5, 1, none⟩ = some (.int .i64 j.ae) := fun z => (hS z).b5.2 1 _ rfl
      have z6 : ∀ z, (f z).cell? ⟨p5, 2, none⟩ = some (.int .i64 j.b) := fun z => (hS z).b5.2 2 _ rfl
      have z7 : ∀ z, (f z).cell? ⟨p5, 3, none⟩ = some (.int .i64 j.be) := fun z => (hS z).b5.2 3 _ rfl
      have z8 : ∀ z, (f z).cell? ⟨p5, 4, none⟩ = some (.int .i64 j.pt) := fun z => (hS z).b5.2 4 _ rfl
      have z9 : ∀ z, (f z).cell? ⟨p5, 5, none⟩ = some (.int .i64 j.ps) := fun z => (hS z).b5.2 5 _ rfl
      have za : ∀ z, (f z).cell? ⟨r, ia, none⟩ = some (.slice Aa Ea.length ca) := fun z => by have := (hS z).tab.row.cell (i := ia) ha; rw [HVa.out, Hr.out] at this; exact this
      have zb : ∀ z, (f z).cell? ⟨r, ib, none⟩ = some (.slice Ab Eb.length cb) := fun z => by have := (hS z).tab.row.cell (i := ib) hb; rw [HVb.out, Hr.out] at this; exact this
      have HS := Lib.hid hS
      have Hof := Lib.hid hof
      clear hS hof
      refine wp_region_qtail (fun w' => ∃ z : Z, w' = f z) 6 (by kernel_rfl) (by kernel_rfl) (Hof.out _ (HC5.out.drewN 1)) ?_
      simp only [List.take_succ_cons, List.take_zero, List.drop_succ_cons, List.drop_zero]
      (repeat (go_big_quiet_step ((go_at_call 119; with_reducible exact (fits_any j Aa ca Ea _ ((HS.out _).tab.rdAt ha HVa.out HEa.out) (by omega)).mono fun e w'' ⟨he, hbb⟩ => ⟨he.trans (ret_bool HFa.out), Hof.out _ ((HS.out _).call hbb)⟩))))
      refine wpQuiet_nil ?_
      intro w6 hw4
      obtain ⟨zz, hw4⟩ := hw4
      have HC6 := Lib.hid (HS.out zz)
      rw [← hw4] at HC6
      clear hw4 zz z0 z1 z2 z3 z4 z5 z6 z7 z8 z9 za zb HS Hof HC5 hZ f Z
      cases Fa
      ·have HF : Hid (R = 11) := Lib.hid (by rw [← HR'.out]; simp [linksErr, HLE.out])
       go_wp2
       go_ret
       exact ⟨ret_int HF.out.symm, Hb0.out.trans (HC6.out.tab.bel.mono Hb0.out.size)⟩
      ·go_wp2
       obtain ⟨Z, hZ, f, hS, hof⟩ := classOf (fun x => CkR w0 x n (atI (L.lnks.take k)) Vs p5 p6 p7 j) (HC6.out.drewN 1)
       have z0 : ∀ z, (f z).cell? ⟨p6, 0, none⟩ = some (.int .i64 j.a) := fun z => (hS z).b6.2 0 _ rfl
       have z1 : ∀ z, (f z).cell? ⟨p6, 1, none⟩ = some (.int .i64 j.ae) := fun z => (hS z).b6.2 1 _ rfl
       have z2 : ∀ z, (f z).cell? ⟨p7, 0, none⟩ = some (.int .i64 j.b) := fun z => (hS z).b7.2 0 _ rfl
       have z3 : ∀ z, (f z).cell? ⟨p7, 1, none⟩ = some (.int .i64 j.be) := fun z => (hS z).b7.2 1 _ rfl
       have z4 : ∀ z, (f z).cell? ⟨p5, 0, none⟩ = some (.int .i64 j.a) := fun z => (hS z).b5.2 0 _ rfl
       have z5 : ∀ z, (f z).cell? ⟨p5, 1, none⟩ = some (.int .i64 j.ae) := fun z => (hS z).b5.2 1 _ rfl
       have z6 : ∀ z, (f z).cell? ⟨p5, 2, none⟩ = some (.int .i64 j.b) := fun z => (hS z).b5.2 2 _ rfl
       have z7 : ∀ z, (f z).cell? ⟨p5, 3, none⟩ = some (.int .i64 j.be) := fun z => (hS z).b5.2 3 _ rfl
       have z8 : ∀ z, (f z).cell? ⟨p5, 4, none⟩ = some (.int .i64 j.pt) := fun z => (hS z).b5.2 4 _ rfl
       have z9 : ∀ z, (f z).cell? ⟨p5, 5, none⟩ = some (.int .i64 j.ps) := fun z => (hS z).b5.2 5 _ rfl
       have za : ∀ z, (f z).cell? ⟨r, ia, none⟩ = some (.slice Aa Ea.length ca) := fun z => by have := (hS z).tab.row.cell (i := ia) ha; rw [HVa.out, Hr.out] at this; exact this
       have zb : ∀ z, (f z).cell? ⟨r, ib, none⟩ = some (.slice Ab Eb.length cb) := fun z => by have := (hS z).tab.row.cell (i := ib) hb; rw [HVb.out, Hr.out] at this; exact this
       have HS := Lib.hid hS
       have Hof := Lib.hid hof
       clear hS hof
       refine wp_region_qtail (fun w' => ∃ z : Z, w' = f z) 6 (by kernel_rfl) (by kernel_rfl) (Hof.out _ (HC6.out.drewN 1)) ?_
       simp only [List.take_succ_cons, List.take_zero, List.drop_succ_cons, List.drop_zero]
       (repeat (go_big_quiet_step ((go_at_call 119; with_reducible exact (fits_any j Ab cb Eb _ ((HS.out _).tab.rdAt hb HVb.out HEb.out) (by omega)).mono fun e w'' ⟨he, hbb⟩ => ⟨he.trans (ret_bool HFb.out), Hof.out _ ((HS.out _).call hbb)⟩))))
       refine wpQuiet_nil ?_
       intro w7 hw4
       obtain ⟨zz, hw4⟩ := hw4
       have HC7 := Lib.hid (HS.out zz)
       rw [← hw4] at HC7
       clear hw4 zz z0 z1 z2 z3 z4 z5 z6 z7 z8 z9 za zb HS Hof HC6 hZ f Z
       cases Fb
       ·have HF : Hid (R = 11) := Lib.hid (by rw [← HR'.out]; simp [linksErr, HLE.out])
        go_wp2
        go_ret
        exact ⟨ret_int HF.out.symm, Hb0.out.trans (HC7.out.tab.bel.mono Hb0.out.size)⟩
       ·have HR2 : Hid (linksErr L.secs.length L.pts.length (L.lnks.take (k + 1)) (L.lnks.drop (k + 1)) = R) := Lib.hid (by rw [Htk.out, ← HR'.out]; simp [linksErr, HLE.out])
        go_wp2
        have y0 := HC7.out.b5.2 0 _ rfl
        have y1 := HC7.out.b5.2 1 _ rfl
        have y2 := HC7.out.b5.2 2 _ rfl
        have y3 := HC7.out.b5.2 3 _ rfl
        have y4 := HC7.out.b5.2 4 _ rfl
        have y5 := HC7.out.b5.2 5 _ rfl
        have y6 := HC7.out.b5.1
        have ya : w7.cell? ⟨r, ia, none⟩ = some (.slice Aa Ea.length ca) := by have := HC7.out.tab.row.cell (i := ia) ha; rw [HVa.out, Hr.out] at this; exact this
        have yr : r < w7.heap.size := by have := HC7.out.tab.row.lt; rw [Hr.out] at this; exact this
        have hEa : Ea.length ≤ 192 := by rw [← HEa.out]; unfold atI atE; have := List.length_filter_le (fun k => hasE k (endOf ia)) (L.lnks.take k); rw [List.length_take] at this; omega
        have hEb : Eb.length ≤ 192 := by rw [← HEb.out]; unfold atI atE; have := List.length_filter_le (fun k => hasE k (endOf ib)) (L.lnks.take k); rw [List.length_take] at this; omega
        have HT7 : Hid (CkI w0 (w7.alloc (.cells #[.int .i64 j.a, .int .i64 j.ae, .int .i64 j.b, .int .i64 j.be, .int .i64 j.pt, .int .i64 j.ps] 143)).drew n (atI (L.lnks.take k)) Vs) := Lib.hid (HC7.out.tab.call ((Below.refl _ _).alloc (Nat.le_refl _) _).drew)
        have Hown : Hid ((w7.alloc (.cells #[.int .i64 j.a, .int .i64 j.ae, .int .i64 j.b, .int .i64 j.be, .int .i64 j.pt, .int .i64 j.ps] 143)).drew.ownsRow (w0.heap.size + 1) 143 6 (.slice Aa Ea.length ca) Ea.length (Ea.flatMap lnkF)) := Lib.hid (by have := HT7.out.own ia ha; rw [HVa.out, HEa.out] at this; exact this)
        have Hnews : Hid (∀ j' u, (lnkF j)[j']? = some u → (w7.alloc (.cells #[.int .i64 j.a, .int .i64 j.ae, .int .i64 j.b, .int .i64 j.be, .int .i64 j.pt, .int .i64 j.ps] 143)).drew.cell? ((⟨w7.heap.size, 0, none⟩ : Addr).add j') = some u) := Lib.hid (World.news_of_block (w := w7.alloc (.cells #[.int .i64 j.a, .int .i64 j.ae, .int .i64 j.b, .int .i64 j.be, .int .i64 j.pt, .int .i64 j.ps] 143)) (heap_alloc_new w7 _))
        have Hone : Hid (∀ u ∈ lnkF j, u.oneCell' = true) := Lib.hid (by intro u hu; simp [lnkF] at hu; rcases hu with rfl | rfl | rfl | rfl | rfl | rfl <;> rfl)
        have Hbase : Hid (w0.heap.size + 1 ≤ (w7.alloc (.cells #[.int .i64 j.a, .int .i64 j.ae, .int .i64 j.b, .int .i64 j.be, .int .i64 j.pt, .int .i64 j.ps] 143)).drew.heap.size) := Lib.hid (by have := HC7.out.tab.row.lt; show _ ≤ (w7.alloc _).heap.size; simp; omega)
        have Hrow : Hid (∀ w8, (w7.alloc (.cells #[.int .i64 j.a, .int .i64 j.ae, .int .i64 j.b, .int .i64 j.be, .int .i64 j.pt, .int .i64 j.ps] 143)).drew.grownBy w8 (Value.slice Aa Ea.length ca).ownBlock → w8.cell? ⟨r, ia, none⟩ = some (.slice Aa Ea.length ca) ∧ w8.frozen? ⟨r, ia, none⟩ = false) := Lib.hid (fun w8 hg => by
         have hne : some w0.heap.size ≠ (Value.slice Aa Ea.length ca).ownBlock := fun e => by
          rw [← HVa.out] at e
          have := HT7.out.blk ha e.symm; omega
         have hrow := HT7.out.row.of_block (hg.block _ HT7.out.row.lt hne)
         have h1 := hrow.cell (i := ia) ha
         have h2 := hrow.frozen ia
         rw [HVa.out, Hr.out] at h1
         rw [Hr.out] at h2
         exact ⟨h1, h2⟩)
        go_region_law (refine step_append_lies _ (by rfl) (.tmp 66) (.tmp 68) 25 (by rfl) (w0.heap.size + 1) 143 i0 _ 6 48 Tryz.underlying25 hi hz0 hz1 hz2 rfl (by omega) (.slice Aa Ea.length ca) Ea.length (Ea.flatMap lnkF) (by simp [Act.eval]) Hown.out ⟨w7.heap.size, 0, none⟩ 1 1 (lnkF j) (by simp [Act.eval]) rfl Hnews.out Hone.out (by omega) (by unfold maxLen; omega) (by omega) Hbase.out (w7.heap.size + 1) (by simp) ?_; intro g8 cap8 w8 ho8 hg8 hat8 hlt8; obtain ⟨x1, x2⟩ := Hrow.out w8 hg8)
        all_goals
         have HT8 : Hid (CkI w0 (w8.setCell ⟨r, ia, none⟩ (.slice (some ⟨g8, 0, none⟩) (Ea.length + 1) cap8)) n (fun i => if i = ia then Ea ++ [j] else atI (L.lnks.take k) i) (fun i => if i = ia then .slice (some ⟨g8, 0, none⟩) (Ea.length + 1) cap8 else Vs i)) := Lib.hid (by
          have h := HT7.out.put ha j (g := g8) (cap := cap8) (by rw [HEa.out]; exact ho8) (by rw [HVa.out]; exact hg8) (by rw [HVa.out]; exact hat8.imp id (fun e => by rw [e]; show _ = (w7.alloc _).heap.size; simp))
          rw [HEa.out, Hr.out] at h; exact h)
         have H58 : Hid (BoxV (w8.setCell ⟨r, ia, none⟩ (.slice (some ⟨g8, 0, none⟩) (Ea.length + 1) cap8)) p5 [.int .i64 j.a, .int .i64 j.ae, .int .i64 j.b, .int .i64 j.be, .int .i64 j.pt, .int .i64 j.ps]) := Lib.hid (((HC7.out.b5.below ((Below.refl _ _).alloc (Nat.le_refl _) (.cells #[.int .i64 j.a, .int .i64 j.ae, .int .i64 j.b, .int .i64 j.be, .int .i64 j.pt, .int .i64 j.ps] 143)).drew).grown hg8 (fun e => by rw [← HVa.out] at e; have := Hold.out ia ha p5 e.symm; omega)).far (by have := Hrp.out; show p5 ≠ r; omega) _)
         clear ho8 hg8 hat8 hlt8 x1 x2 HT7 Hown Hnews Hbase Hrow HC7 y0 y1 y2 y3 y4 y5 y6 ya yr
         generalize w8.setCell ⟨r, ia, none⟩ (.slice (some ⟨g8, 0, none⟩) (Ea.length + 1) cap8) = w9 at *
         have hab : ib ≠ ia := fun e => Hne.out (by have := Hia.out; have := Hib.out; omega)
         have Hab := Lib.hid hab
         clear hab
         obtain ⟨V1, HV1⟩ : ∃ V1, Hid ((fun i => if i = ia then .slice (some ⟨g8, 0, none⟩) (Ea.length + 1) cap8 else Vs i) = V1) := ⟨_, Lib.hid rfl⟩
         obtain ⟨E1, HE1⟩ : ∃ E1, Hid ((fun i => if i = ia then Ea ++ [j] else atI (L.lnks.take k) i) = E1) := ⟨_, Lib.hid rfl⟩
         rw [HV1.out, HE1.out] at HT8
         have HVb1 : Hid (V1 ib = .slice Ab Eb.length cb) := Lib.hid (by rw [← HV1.out]; simp only [if_neg Hab.out]; exact HVb.out)
         have HEb1 : Hid (E1 ib = Eb) := Lib.hid (by rw [← HE1.out]; simp only [if_neg Hab.out]; exact HEb.out)
         have y0 := H58.out.2 0 _ rfl
         have y1 := H58.out.2 1 _ rfl
         have y2 := H58.out.2 2 _ rfl
         have y3 := H58.out.2 3 _ rfl
         have y4 := H58.out.2 4 _ rfl
         have y5 := H58.out.2 5 _ rfl
         have y6 := H58.out.1
         have ya : w9.cell? ⟨r, ib, none⟩ = some (.slice Ab Eb.length cb) := by have := HT8.out.row.cell (i := ib) hb; rw [HVb1.out, Hr.out] at this; exact this
         have yr : r < w9.heap.size := by have := HT8.out.row.lt; rw [Hr.out] at this; exact this
         have HT9 : Hid (CkI w0 (w9.alloc (.cells #[.int .i64 j.a, .int .i64 j.ae, .int .i64 j.b, .int .i64 j.be, .int .i64 j.pt, .int .i64 j.ps] 143)).drew n E1 V1) := Lib.hid (HT8.out.call ((Below.refl _ _).alloc (Nat.le_refl _) _).drew)
         have Hown : Hid ((w9.alloc (.cells #[.int .i64 j.a, .int .i64 j.ae, .int .i64 j.b, .int .i64 j.be, .int .i64 j.pt, .int .i64 j.ps] 143)).drew.ownsRow (w0.heap.size + 1) 143 6 (.slice Ab Eb.length cb) Eb.length (Eb.flatMap lnkF)) := Lib.hid (by have := HT9.out.own ib hb; rw [HVb1.out, HEb1.out] at this; exact this)
         have Hnews : Hid (∀ j' u, (lnkF j)[j']? = some u → (w9.alloc (.cells #[.int .i64 j.a, .int .i64 j.ae, .int .i64 j.b, .int .i64 j.be, .int .i64 j.pt, .int .i64 j.ps] 143)).drew.cell? ((⟨w9.heap.size, 0, none⟩ : Addr).add j') = some u) := Lib.hid (World.news_of_block (w := w9.alloc (.cells #[.int .i64 j.a, .int .i64 j.ae, .int .i64 j.b, .int .i64 j.be, .int .i64 j.pt, .int .i64 j.ps] 143)) (heap_alloc_new w9 _))
         have Hbase : Hid (w0.heap.size + 1 ≤ (w9.alloc (.cells #[.int .i64 j.a, .int .i64 j.ae, .int .i64 j.b, .int .i64 j.be, .int .i64 j.pt, .int .i64 j.ps] 143)).drew.heap.size) := Lib.hid (by have := HT8.out.row.lt; show _ ≤ (w9.alloc _).heap.size; simp; omega)
         have Hrow : Hid (∀ w10, (w9.alloc (.cells #[.int .i64 j.a, .int .i64 j.ae, .int .i64 j.b, .int .i64 j.be, .int .i64 j.pt, .int .i64 j.ps] 143)).drew.grownBy w10 (Value.slice Ab Eb.length cb).ownBlock → w10.cell? ⟨r, ib, none⟩ = some (.slice Ab Eb.length cb) ∧ w10.frozen? ⟨r, ib, none⟩ = false) := Lib.hid (fun w10 hg => by
          have hne : some w0.heap.size ≠ (Value.slice Ab Eb.length cb).ownBlock := fun e => by
           rw [← HVb1.out] at e
           have := HT9.out.blk hb e.symm; omega
          have hrow := HT9.out.row.of_block (hg.block _ HT9.out.row.lt hne)
          have h1 := hrow.cell (i := ib) hb
          have h2 := hrow.frozen ib
          rw [HVb1.out, Hr.out] at h1
          rw [Hr.out] at h2
          exact ⟨h1, h2⟩)
         go_wp2
         go_region_law (refine step_append_lies _ (by rfl) (.tmp 74) (.tmp 76) 25 (by rfl) (w0.heap.size + 1) 143 i0 _ 6 48 Tryz.underlying25 hi hz0 hz1 hz2 rfl (by omega) (.slice Ab Eb.length cb) Eb.length (Eb.flatMap lnkF) (by simp [Act.eval]) Hown.out ⟨w9.heap.size, 0, none⟩ 1 1 (lnkF j) (by simp [Act.eval]) rfl Hnews.out Hone.out (by omega) (by unfold maxLen; omega) (by omega) Hbase.out (w9.heap.size + 1) (by simp) ?_; intro g10 cap10 w10 ho10 hg10 hat10 hlt10; obtain ⟨x1, x2⟩ := Hrow.out w10 hg10)
         all_goals
          have HT10 : Hid (∃ V2, CkI w0 (w10.setCell ⟨r, ib, none⟩ (.slice (some ⟨g10, 0, none⟩) (Eb.length + 1) cap10)) n (atI (L.lnks.take (k + 1))) V2) := Lib.hid (by
           have h := HT9.out.put hb j (g := g10) (cap := cap10) (by rw [HEb1.out]; exact ho10) (by rw [HVb1.out]; exact hg10) (by rw [HVb1.out]; exact hat10.imp id (fun e => by rw [e]; show _ = (w9.alloc _).heap.size; simp))
           rw [HEb1.out, Hr.out] at h
           refine ⟨_, h.congr (fun i hi => ?_)⟩
           have hs := atI_step (prev := L.lnks.take k) l1 l5 l6 l3 l7 l8 Hia.out Hib.out (Ne.symm Hab.out) i
           rw [if_neg Hab.out, HEa.out, HEb.out] at hs
           rw [Htk.out, ← hs, ← HE1.out])
          clear ho10 hg10 hat10 hlt10 x1 x2 HT9 Hown Hnews Hbase Hrow y0 y1 y2 y3 y4 y5 y6 ya yr HT8 H58
          generalize w10.setCell ⟨r, ib, none⟩ (.slice (some ⟨g10, 0, none⟩) (Eb.length + 1) cap10) = w11 at *
          obtain ⟨V2, hT⟩ := HT10.out
          have HT11 := Lib.hid hT
          clear hT HT10
          go_wp2
          go_roundw
          case rel => exact ⟨k + 1, V2, by omega, by go_num, HR2, HT11⟩
          case measure => simp [intOf]; omega
     ·have HF : Hid (R = 5) := Lib.hid (by
       have : linkErr L.secs.length L.pts.length (L.lnks.take k) j = 5 := by
        unfold linkErr
        rw [if_neg (by rw [Hin.out]; decide), if_neg Hpair.out, if_pos HJ'.out]
       rw [← HR'.out]; simp [linksErr, this])
      go_wp2
      go_ret
      exact ⟨ret_int HF.out.symm, Hb0.out.trans (HC5.out.tab.bel.mono Hb0.out.size)⟩
    ·have HF : Hid (R = 1) := Lib.hid (by
      have : (j.a, j.ae) = (j.b, j.be) := by simp [eqE] at hsame; rw [hsame.1, hsame.2]
      rw [← HR'.out]; simp [linksErr, linkErr, Hin.out, this])
     go_wp2
     go_ret
     exact ⟨ret_int HF.out.symm, Hb0.out.trans (HC4.out.tab.bel.mono Hb0.out.size)⟩
  ·have HF : Hid (R = 0) := Lib.hid (by rw [← HR.out, List.drop_of_length_le (by omega)]; rfl)
   go_wp2
   go_ret
   exact ⟨ret_int HF.out.symm, Hb0.out.trans (HI.out.bel.mono Hb0.out.size)⟩
end Go.Proofs.YtalfibohepbhfaaGreat
namespace Go.Proofs.YtalfibohepbhfaaGreat
open Go.RowKit
open Go.WideMaps (keyOf_string_mk)
theorem run_zero_bool (w : World) : (zeroValue 4).run Tryz.prog w = .ok (.bool false) w := by kernel_rfl
def SeenM (w : World) (b : Nat) (seen : List ByteArray) : Prop :=
 ∃ D : DataW Unit, w.ownsMap Tryz.prog 9 (plainElem Tryz.prog 4) b seen.length D ∧ Maps.IsMap D ∧ ∀ s : ByteArray, D.atKey (.string s.data.toList) (.lit (.bool false)) = .lit (.bool (memS s seen))
theorem memS_snoc (s x : ByteArray) (l : List ByteArray) : memS s (l ++ [x]) = (memS s l || eqS s x) := by simp [memS, List.any_append]
theorem bytes_inj {a b : ByteArray} (h : a.data.toList = b.data.toList) : a = b := by
 cases a; cases b; simp at h; rw [h]
theorem SeenM.new (w : World) : SeenM (w.alloc (.map #[] 0)) w.heap.size [] :=
 ⟨.map [], World.ownsMap_made w _ _ _, Maps.isMap_empty, fun s => by simp [DataW.atKey, memS]⟩
theorem SeenM.of_block {w w' : World} {b : Nat} {seen : List ByteArray} (h : SeenM w b seen) (e : w'.heap[b]? = w.heap[b]?) : SeenM w' b seen := by
 obtain ⟨D, ⟨es, c, h1, h2⟩, h3⟩ := h
 exact ⟨D, ⟨es, c, e.trans h1, h2⟩, h3⟩
theorem SeenM.lt {w : World} {b : Nat} {seen : List ByteArray} (h : SeenM w b seen) : b < w.heap.size := by
 obtain ⟨D, h1, _⟩ := h; exact h1.lt
theorem plainElem_bool_inv {e : TypeId} (he : Tryz.prog.underlying e = some .bool) {v : Value} {z : DataW Unit × List MemPlace} (h : plainElem Tryz.prog e v = some z) : ∃ x, v = .bool x ∧ z = (.lit (.bool x), []) := by
 unfold plainElem at h
 rw [he] at h
 cases v <;> simp at h
 exact ⟨_, rfl, h.symm⟩
theorem SeenM.look {w : World} {b : Nat} {seen : List ByteArray} (h : SeenM w b seen) (s : ByteArray) (hs : s.size ≤ maxLen) : (Instr.lookup 190 (.map (some b)) (.string s) false).run Tryz.prog w = .ok (.bool (memS s seen)) w := by
 obtain ⟨D, hown, hD, hat⟩ := h
 obtain ⟨v, ps, hrun, hv⟩ := hown.lookup (Maps.string_keyed Tryz.underlying9) Tryz.underlying190 (run_zero_bool w) (plainElem_bool Tryz.underlying4 false) (keyOf_string_mk Tryz.underlying9 hs)
 obtain ⟨x, rfl, hx⟩ := plainElem_bool_inv Tryz.underlying4 hv
 simp only [Prod.mk.injEq] at hx
 have h1 := hx.1
 rw [hat s] at h1
 have h3 : memS s seen = x := by simpa using h1
 rw [h3]; exact hrun
theorem SeenM.put {w : World} {b : Nat} {seen : List ByteArray} (h : SeenM w b seen) (s : ByteArray) (hs : s.size ≤ maxLen) (hn : seen.length < maxLen) :
  ∃ w', (Instr.mapUpdate 190 (.map (some b)) (.string s) (.bool true)).run Tryz.prog w = .ok () w' ∧ SeenM w' b (seen ++ [s]) ∧ w.grownBy w' (some b) := by
 obtain ⟨D, hown, hD, hat⟩ := h
 obtain ⟨w', hrun, ho, hg⟩ := hown.update (Maps.string_keyed Tryz.underlying9) Tryz.underlying190 hn (keyOf_string_mk Tryz.underlying9 hs) (plainElem_bool Tryz.underlying4 true)
 refine ⟨w', hrun, ⟨_, by rw [List.length_append]; exact ho, hD.put _ _, fun x => ?_⟩, hg⟩
 rw [memS_snoc]
 by_cases hx : x = s
 ·subst hx
  rw [Maps.atKey_put_same hD ((Maps.string_keyed Tryz.underlying9).key (keyOf_string_mk (P := Tryz.prog) Tryz.underlying9 hs)), (eqS_iff _ _).2 rfl]; simp
 ·rw [Maps.atKey_put_other (fun e => hx (bytes_inj (by simpa using e))), hat x, show eqS x s = false by rw [Bool.eq_false_iff]; exact fun h => hx ((eqS_iff _ _).1 h)]; simp
theorem nameErr_bad {seen : List ByteArray} {s : ByteArray} (h : nameB s = false) : nameErr seen s = 3 := by simp [nameErr, h]
theorem nameErr_dup {seen : List ByteArray} {s : ByteArray} (h : nameB s = true) (h2 : memS s seen = true) : nameErr seen s = 5 := by simp [nameErr, h, h2]
theorem nameErr_ok {seen : List ByteArray} {s : ByteArray} (h : nameB s = true) (h2 : memS s seen = false) : nameErr seen s = 0 := by simp [nameErr, h, h2]
theorem checkName_any (s : ByteArray) (b : Nat) (seen : List ByteArray) (w : World) (hs : s.size ≤ maxLen) (hM : SeenM w b seen) (hn : seen.length < maxLen) :
  Calls Tryz.prog 98 #[.string s, .map (some b)] w fun e w' => e = .returned (.int .i64 (nameErr seen s)) ∧ (nameErr seen s = 0 → SeenM w' b (seen ++ [s])) ∧ w.grownBy w' (some b) := by
 have hs' : s.size ≤ 9223372036854775807 := by unfold maxLen at hs; omega
 have hgr : w.grownBy w (some b) := ⟨rfl, rfl, rfl, Nat.le_refl _, fun _ _ _ => rfl⟩
 have Hgr := Lib.hid hgr
 clear hgr
 cases hB : nameB s
 ·have HB := Lib.hid hB
  have HE := Lib.hid (nameErr_bad (seen := seen) hB)
  clear hB hM
  go_enter Tryz.func98, Tryz.ntmps98
  go_wp2_with fail
  refine (name_any s _ hs').mono ?_
  rintro e w' ⟨rfl, rfl⟩
  rw [HB.out]
  go_wp2
  go_ret
  exact ⟨ret_int HE.out.symm, fun h => absurd h (by rw [HE.out]; decide), Hgr.out⟩
 ·have hl := hM.look s hs
  cases hD : memS s seen
  ·obtain ⟨w2, hu, hM2, hg2⟩ := hM.put s hs hn
   rw [hD] at hl
   have HB := Lib.hid hB
   have HE := Lib.hid (nameErr_ok hB hD)
   have HM2 := Lib.hid hM2
   have Hg2 := Lib.hid hg2
   clear hB hD hM hM2 hg2
   go_enter Tryz.func98, Tryz.ntmps98
   go_wp2_with fail
   refine (name_any s _ hs').mono ?_
   rintro e w' ⟨rfl, rfl⟩
   rw [HB.out]
   go_wp2
   go_ret
   exact ⟨ret_int HE.out.symm, fun _ => HM2.out, Hg2.out⟩
  ·rw [hD] at hl
   have HB := Lib.hid hB
   have HE := Lib.hid (nameErr_dup hB hD)
   clear hB hD hM
   go_enter Tryz.func98, Tryz.ntmps98
   go_wp2_with fail
   refine (name_any s _ hs').mono ?_
   rintro e w' ⟨rfl, rfl⟩
   rw [HB.out]
   go_wp2
   go_ret
   exact ⟨ret_int HE.out.symm, fun h => absurd h (by rw [HE.out]; decide), Hgr.out⟩
end Go.Proofs.YtalfibohepbhfaaGreat
namespace Go.Proofs.YtalfibohepbhfaaGreat
open Go.RowKit
theorem index_pair0 (x y : Value) (w : World) : (Instr.index 189 (.agg #[x, y]) (.int .i64 0)).run Tryz.prog w = .ok x w := by kernel_rfl
theorem index_pair1 (x y : Value) (w : World) : (Instr.index 189 (.agg #[x, y]) (.int .i64 1)).run Tryz.prog w = .ok y w := by kernel_rfl
def rest2 (L : Lay) : Int := orErr (secsErr L.sts.length [] L.secs) (linksErr L.secs.length L.pts.length [] L.lnks)
def rest1 (L : Lay) : Int := orErr (namesErr [] L.pts) (rest2 L)
theorem layErr_full {L : Lay} (h : 24 < L.sts.length ∨ 48 < L.pts.length ∨ 96 < L.secs.length ∨ 192 < L.lnks.length) : layErr L = 7 := if_pos h
theorem layErr_none {L : Lay} (h : ¬ (24 < L.sts.length ∨ 48 < L.pts.length ∨ 96 < L.secs.length ∨ 192 < L.lnks.length)) (h0 : L.secs.length = 0) : layErr L = 1 := by
 unfold layErr; rw [if_neg h, if_pos h0]
theorem layErr_go {L : Lay} (h : ¬ (24 < L.sts.length ∨ 48 < L.pts.length ∨ 96 < L.secs.length ∨ 192 < L.lnks.length)) (h0 : L.secs.length ≠ 0) : layErr L = orErr (namesErr [] L.sts) (rest1 L) := by
 unfold layErr; rw [if_neg h, if_neg h0]; rfl
theorem secsErr_cons (nst : Nat) (seen : List ByteArray) (s : Sec) (r : List Sec) : secsErr nst seen (s :: r) = if nameErr seen s.nm = 0 then (if secB nst s = true then secsErr nst (seen ++ [s.nm]) r else 4) else nameErr seen s.nm := rfl
set_option maxHeartbeats 1000000 in
set_option maxRecDepth 100000 in
theorem layCheck_any (V : LayV) (L : Lay) (w : World) (hR : RdLay w V L) :
  Calls Tryz.prog 78 #[.agg #[.slice V.A1 L.sts.length V.c1, .slice V.A2 L.pts.length V.c2, .slice V.A3 L.secs.length V.c3, .slice V.A4 L.lnks.length V.c4]] w fun e w' => e = .returned (.int .i64 (layErr L)) ∧ Below w.heap.size w w' := by
 obtain ⟨A1, c1, A2, c2, A3, c3, A4, c4⟩ := V
 dsimp only
 have i1 : L.sts.length ≤ 9223372036854775807 := hR.m1
 have i2 : L.pts.length ≤ 9223372036854775807 := hR.m2
 have i3 : L.secs.length ≤ 9223372036854775807 := hR.m3
 have i4 : L.lnks.length ≤ 9223372036854775807 := hR.m4
 obtain ⟨R, HE⟩ : ∃ R, Hid (layErr L = R) := ⟨_, Lib.hid rfl⟩
 rw [HE.out]
 have Hb0 : Hid (Below w.heap.size w (w.alloc (.cells #[.slice A1 L.sts.length c1, .slice A2 L.pts.length c2, .slice A3 L.secs.length c3, .slice A4 L.lnks.length c4] 27))) := Lib.hid ((Below.refl _ _).alloc (Nat.le_refl _) _)
 by_cases h1 : 24 < L.sts.length
 ·have HF : Hid (R = 7) := Lib.hid (by rw [← HE.out]; exact layErr_full (.inl h1))
  go_enter Tryz.func78, Tryz.ntmps78
  go_wp2
  go_ret
  exact ⟨ret_int HF.out.symm, Hb0.out⟩
 have d1 : decide ((24 : Int) < (L.sts.length : Int)) = false := by simp; omega
 by_cases h2 : 48 < L.pts.length
 ·have HF : Hid (R = 7) := Lib.hid (by rw [← HE.out]; exact layErr_full (.inr (.inl h2)))
  go_enter Tryz.func78, Tryz.ntmps78
  go_wp2
  go_ret
  exact ⟨ret_int HF.out.symm, Hb0.out⟩
 have d2 : decide ((48 : Int) < (L.pts.length : Int)) = false := by simp; omega
 by_cases h3 : 96 < L.secs.length
 ·have HF : Hid (R = 7) := Lib.hid (by rw [← HE.out]; exact layErr_full (.inr (.inr (.inl h3))))
  go_enter Tryz.func78, Tryz.ntmps78
  go_wp2
  go_ret
  exact ⟨ret_int HF.out.symm, Hb0.out⟩
 have d3 : decide ((96 : Int) < (L.secs.length : Int)) = false := by simp; omega
 by_cases h4 : 192 < L.lnks.length
 ·have HF : Hid (R = 7) := Lib.hid (by rw [← HE.out]; exact layErr_full (.inr (.inr (.inr h4))))
  go_enter Tryz.func78, Tryz.ntmps78
  go_wp2
  go_ret
  exact ⟨ret_int HF.out.symm, Hb0.out⟩
 have d4 : decide ((192 : Int) < (L.lnks.length : Int)) = false := by simp; omega
 by_cases h5 : L.secs.length = 0
 ·have HF : Hid (R = 1) := Lib.hid (by rw [← HE.out]; exact layErr_none (by omega) h5)
  have d5 : ((L.secs.length : Int) == 0) = true := by rw [h5]; rfl
  clear h5
  go_enter Tryz.func78, Tryz.ntmps78
  go_wp2
  go_ret
  exact ⟨ret_int HF.out.symm, Hb0.out⟩
 have d5 : ((L.secs.length : Int) == 0) = false := by rw [beq_eq_false_iff_ne]; omega
 have HR1 : Hid (orErr (namesErr [] L.sts) (rest1 L) = R) := Lib.hid (by rw [← HE.out]; exact (layErr_go (by omega) h5).symm)
 have HB0 := Lib.hid (BoxV.new w [.slice A1 L.sts.length c1, .slice A2 L.pts.length c2, .slice A3 L.secs.length c3, .slice A4 L.lnks.length c4] 27)
 have HR0 := Lib.hid (hR.below Hb0.out)
 have hmm := @run_makeMap Tryz.prog
 have hix := index_pair0
 have hix1 := index_pair1
 have n1 : L.sts.length ≤ 24 := by omega
 have n2 : L.pts.length ≤ 48 := by omega
 have n3 : L.secs.length ≤ 96 := by omega
 have n4 : L.lnks.length ≤ 192 := by omega
 have n5 : 1 ≤ L.secs.length := by omega
 clear h1 h2 h3 h4 h5 hR HE
 go_enter Tryz.func78, Tryz.ntmps78
 go_wp2
 clear d1 d2 d3 d4 d5
 generalize w.alloc (.cells #[.slice A1 L.sts.length c1, .slice A2 L.pts.length c2, .slice A3 L.secs.length c3, .slice A4 L.lnks.length c4] 27) = w0 at *
 go_loopw [40] (fun i wr => ∃ k : Nat, k ≤ 2 ∧ i = .int .i64 k ∧ Hid ((if k = 0 then orErr (namesErr [] L.sts) (rest1 L) else if k = 1 then rest1 L else rest2 L) = R) ∧ Hid (Below w0.heap.size w0 wr)) (fun i _ => 2 - (intOf i).toNat)
 case atStart => exact ⟨0, by omega, rfl, Lib.hid (by simpa using HR1.out), Lib.hid (Below.refl _ _)⟩
 case round =>
  obtain ⟨k, hk, rfl, HRk, Hbr⟩ := hrel
  obtain ⟨wo, rfl⟩ : ∃ wo : World, wo = wr := ⟨_, rfl⟩
  rcases (show k = 0 ∨ k = 1 ∨ k = 2 by omega) with rfl | rfl | rfl
  ·rw [show ((0 : Nat) : Int) = 0 from rfl]
   have HM := Lib.hid (SeenM.new wo)
   have Hb1 : Hid (Below w0.heap.size w0 (wo.alloc (.map #[] 0))) := Lib.hid (Hbr.out.alloc Hbr.out.size _)
   have Hbq : Hid (w0.heap.size ≤ wo.heap.size) := Lib.hid Hbr.out.size
   have HRk' : Hid (orErr (namesErr [] L.sts) (rest1 L) = R) := Lib.hid (by have := HRk.out; simpa [rest1] using this)
   obtain ⟨E, HE⟩ : ∃ E, Hid (namesErr [] L.sts = E) := ⟨_, Lib.hid rfl⟩
   rw [HE.out] at HRk'
   clear HRk
   go_wp2
   obtain ⟨bq, hbq⟩ : ∃ bq, wo.heap.size = bq := ⟨_, rfl⟩
   rw [hbq] at HM Hbq
   rw [hbq]
   clear hbq Hbr
   generalize wo.alloc (.map #[] 0) = w1 at *
   go_loopw [46] (fun i wr => ∃ m : Nat, m ≤ L.sts.length ∧ i = .int .i64 m ∧ Hid (namesErr (L.sts.take m) (L.sts.drop m) = E) ∧ Hid (SeenM wr bq (L.sts.take m)) ∧ Hid (Below w0.heap.size w0 wr)) (fun i _ => L.sts.length - (intOf i).toNat)
   case atStart => exact ⟨0, by omega, rfl, Lib.hid (by simpa using HE.out), by simpa using HM, Hb1⟩
   case round =>
    obtain ⟨m, hm, rfl, HEm, HMm, Hbm⟩ := hrel
    clear HM Hb1
    by_cases hlt : m < L.sts.length
    ·obtain ⟨bs, os, hA, hbl, hc⟩ := (HR0.out.below Hbm.out).r1 m hlt
     obtain rfl : A1 = some ⟨bs, os, none⟩ := hA
     obtain ⟨s, Hs⟩ : ∃ s, Hid (L.sts[m] = s) := ⟨_, Lib.hid rfl⟩
     have hsz : s.size ≤ maxLen := by rw [← Hs.out]; unfold maxLen; exact HR0.out.s1 _ (List.getElem_mem hlt)
     rw [Hs.out] at hc
     have q0 := hc 0 _ rfl
     rw [Nat.add_zero, Nat.mul_one] at q0
     have HEm' : Hid (namesErr (L.sts.take m) (s :: L.sts.drop (m + 1)) = E) := Lib.hid (by rw [← Hs.out, ← List.drop_eq_getElem_cons hlt]; exact HEm.out)
     have Htk : Hid (L.sts.take (m + 1) = L.sts.take m ++ [s]) := Lib.hid (by rw [List.take_succ_eq_append_getElem hlt, Hs.out])
     clear hc HEm Hs
     go_wp2_with fail
     refine (checkName_any s bq (L.sts.take m) _ hsz HMm.out (by rw [List.length_take]; unfold maxLen; omega)).mono ?_
     rintro e w2 ⟨rfl, hM2, hg2⟩
     have Hb2 : Hid (Below w0.heap.size w0 w2) := Lib.hid (Hbm.out.grown hg2 Hbm.out.size (fun q hq => by injection hq with hq; subst hq; exact Hbq.out))
     obtain ⟨z, Hz⟩ : ∃ z, Hid (nameErr (L.sts.take m) s = z) := ⟨_, Lib.hid rfl⟩
     rw [Hz.out] at hM2 ⊢
     clear hg2 q0 hbl HMm
     by_cases hz : z = 0
     ·subst hz
      have HM2 : Hid (SeenM w2 bq (L.sts.take (m + 1))) := Lib.hid (by rw [Htk.out]; exact hM2 rfl)
      have HE2 : Hid (namesErr (L.sts.take (m + 1)) (L.sts.drop (m + 1)) = E) := Lib.hid (by rw [Htk.out, ← HEm'.out]; simp [namesErr, Hz.out])
      clear hM2 Hz
      go_wp2
      go_roundw
      case rel => exact ⟨m + 1, by omega, by go_num, HE2, HM2, Hb2⟩
      case measure => simp [intOf]; omega
     ·have hzb : (z != 0) = true := by simpa using hz
      have HF : Hid (R = z) := Lib.hid (by
       have h1 : E = z := by rw [← HEm'.out]; simp [namesErr, Hz.out, hz]
       rw [← HRk'.out, h1]; unfold orErr; rw [if_neg hz])
      clear hM2 Hz hz
      go_wp2
      go_ret
      exact ⟨ret_int HF.out.symm, Hb0.out.trans (Hb2.out.mono Hb0.out.size)⟩
    ·have HF : Hid (rest1 L = R) := Lib.hid (by
      have h1 : E = 0 := by rw [← HEm.out, List.drop_of_length_le (by omega)]; rfl
      rw [← HRk'.out, h1]; rfl)
     go_wp2
     exact ⟨⟨1, by omega, rfl, Lib.hid (by simpa using HF.out), Hbm⟩, by decide⟩
  ·rw [show ((1 : Nat) : Int) = 1 from rfl]
   have HM := Lib.hid (SeenM.new wo)
   have Hb1 : Hid (Below w0.heap.size w0 (wo.alloc (.map #[] 0))) := Lib.hid (Hbr.out.alloc Hbr.out.size _)
   have Hbq : Hid (w0.heap.size ≤ wo.heap.size) := Lib.hid Hbr.out.size
   have HRk' : Hid (orErr (namesErr [] L.pts) (rest2 L) = R) := Lib.hid (by have := HRk.out; simpa [rest1] using this)
   obtain ⟨E, HE⟩ : ∃ E, Hid (namesErr [] L.pts = E) := ⟨_, Lib.hid rfl⟩
   rw [HE.out] at HRk'
   clear HRk
   go_wp2
   obtain ⟨bq, hbq⟩ : ∃ bq, wo.heap.size = bq := ⟨_, rfl⟩
   rw [hbq] at HM Hbq
   rw [hbq]
   clear hbq Hbr
   generalize wo.alloc (.map #[] 0) = w1 at *
   go_loopw [46] (fun i wr => ∃ m : Nat, m ≤ L.pts.length ∧ i = .int .i64 m ∧ Hid (namesErr (L.pts.take m) (L.pts.drop m) = E) ∧ Hid (SeenM wr bq (L.pts.take m)) ∧ Hid (Below w0.heap.size w0 wr)) (fun i _ => L.pts.length - (intOf i).toNat)
   case atStart => exact ⟨0, by omega, rfl, Lib.hid (by simpa using HE.out), by simpa using HM, Hb1⟩
   case round =>
    obtain ⟨m, hm, rfl, HEm, HMm, Hbm⟩ := hrel
    clear HM Hb1
    by_cases hlt : m < L.pts.length
    ·obtain ⟨bs, os, hA, hbl, hc⟩ := (HR0.out.below Hbm.out).r2 m hlt
     obtain rfl : A2 = some ⟨bs, os, none⟩ := hA
     obtain ⟨s, Hs⟩ : ∃ s, Hid (L.pts[m] = s) := ⟨_, Lib.hid rfl⟩
     have hsz : s.size ≤ maxLen := by rw [← Hs.out]; unfold maxLen; exact HR0.out.s2 _ (List.getElem_mem hlt)
     rw [Hs.out] at hc
     have q0 := hc 0 _ rfl
     rw [Nat.add_zero, Nat.mul_one] at q0
     have HEm' : Hid (namesErr (L.pts.take m) (s :: L.pts.drop (m + 1)) = E) := Lib.hid (by rw [← Hs.out, ← List.drop_eq_getElem_cons hlt]; exact HEm.out)
     have Htk : Hid (L.pts.take (m + 1) = L.pts.take m ++ [s]) := Lib.hid (by rw [List.take_succ_eq_append_getElem hlt, Hs.out])
     clear hc HEm Hs
     go_wp2_with fail
     refine (checkName_any s bq (L.pts.take m) _ hsz HMm.out (by rw [List.length_take]; unfold maxLen; omega)).mono ?_
     rintro e w2 ⟨rfl, hM2, hg2⟩
     have Hb2 : Hid (Below w0.heap.size w0 w2) := Lib.hid (Hbm.out.grown hg2 Hbm.out.size (fun q hq => by injection hq with hq; subst hq; exact Hbq.out))
     obtain ⟨z, Hz⟩ : ∃ z, Hid (nameErr (L.pts.take m) s = z) := ⟨_, Lib.hid rfl⟩
     rw [Hz.out] at hM2 ⊢
     clear hg2 q0 hbl HMm
     by_cases hz : z = 0
     ·subst hz
      have HM2 : Hid (SeenM w2 bq (L.pts.take (m + 1))) := Lib.hid (by rw [Htk.out]; exact hM2 rfl)
      have HE2 : Hid (namesErr (L.pts.take (m + 1)) (L.pts.drop (m + 1)) = E) := Lib.hid (by rw [Htk.out, ← HEm'.out]; simp [namesErr, Hz.out])
      clear hM2 Hz
      go_wp2
      go_roundw
      case rel => exact ⟨m + 1, by omega, by go_num, HE2, HM2, Hb2⟩
      case measure => simp [intOf]; omega
     ·have hzb : (z != 0) = true := by simpa using hz
      have HF : Hid (R = z) := Lib.hid (by
       have h1 : E = z := by rw [← HEm'.out]; simp [namesErr, Hz.out, hz]
       rw [← HRk'.out, h1]; unfold orErr; rw [if_neg hz])
      clear hM2 Hz hz
      go_wp2
      go_ret
      exact ⟨ret_int HF.out.symm, Hb0.out.trans (Hb2.out.mono Hb0.out.size)⟩
    ·have HF : Hid (rest2 L = R) := Lib.hid (by
      have h1 : E = 0 := by rw [← HEm.out, List.drop_of_length_le (by omega)]; rfl
      rw [← HRk'.out, h1]; rfl)
     go_wp2
     exact ⟨⟨2, by omega, rfl, Lib.hid (by simpa using HF.out), Hbm⟩, by decide⟩
  ·have HRk' : Hid (rest2 L = R) := Lib.hid (by have := HRk.out; simpa using this)
   rw [show ((2 : Nat) : Int) = 2 from rfl]
   have HM := Lib.hid (SeenM.new wo)
   have Hb1 : Hid (Below w0.heap.size w0 (wo.alloc (.map #[] 0))) := Lib.hid (Hbr.out.alloc Hbr.out.size _)
   have Hbq : Hid (w0.heap.size ≤ wo.heap.size) := Lib.hid Hbr.out.size
   obtain ⟨E, HE⟩ : ∃ E, Hid (secsErr L.sts.length [] L.secs = E) := ⟨_, Lib.hid rfl⟩
   obtain ⟨T, HT⟩ : ∃ T, Hid (linksErr L.secs.length L.pts.length [] L.lnks = T) := ⟨_, Lib.hid rfl⟩
   have HR2 : Hid (orErr E T = R) := Lib.hid (by have := HRk'.out; unfold rest2 at this; rw [HE.out, HT.out] at this; exact this)
   have HB := Lib.hid (HB0.out.below Hbr.out)
   have s2 := HB.out.2 2 _ rfl
   have s5 := HB.out.1
   clear HRk HRk'
   go_wp2
   clear s2 s5 HB
   obtain ⟨bq, hbq⟩ : ∃ bq, wo.heap.size = bq := ⟨_, rfl⟩
   rw [hbq] at HM Hbq
   rw [hbq]
   clear hbq Hbr
   generalize wo.alloc (.map #[] 0) = w1 at *
   go_loopw [62] (fun i wr => ∃ m : Nat, m ≤ L.secs.length ∧ i = .int .i64 m ∧ Hid (secsErr L.sts.length ((L.secs.take m).map Sec.nm) (L.secs.drop m) = E) ∧ Hid (SeenM wr bq ((L.secs.take m).map Sec.nm)) ∧ Hid (Below w0.heap.size w0 wr)) (fun i _ => L.secs.length - (intOf i).toNat)
   case atStart => exact ⟨0, by omega, rfl, Lib.hid (by simpa using HE.out), by simpa using HM, Hb1⟩
   case round =>
    obtain ⟨m, hm, rfl, HEm, HMm, Hbm⟩ := hrel
    clear HM Hb1
    by_cases hlt : m < L.secs.length
    ·obtain ⟨bs, os, hA, hbl, hc⟩ := (HR0.out.below Hbm.out).r3 m hlt
     obtain rfl : A3 = some ⟨bs, os, none⟩ := hA
     obtain ⟨s, Hs⟩ : ∃ s, Hid (L.secs[m] = s) := ⟨_, Lib.hid rfl⟩
     have hsz : s.nm.size ≤ maxLen := by rw [← Hs.out]; unfold maxLen; exact HR0.out.s3 _ (List.mem_map.2 ⟨_, List.getElem_mem hlt, rfl⟩)
     rw [Hs.out] at hc
     have q0 := hc 0 _ rfl
     have q1 := hc 1 _ rfl
     have q2 := hc 2 _ rfl
     have q3 := hc 3 _ rfl
     have q4 := hc 4 _ rfl
     rw [Nat.add_zero] at q0
     have HEm' : Hid (secsErr L.sts.length ((L.secs.take m).map Sec.nm) (s :: L.secs.drop (m + 1)) = E) := Lib.hid (by rw [← Hs.out, ← List.drop_eq_getElem_cons hlt]; exact HEm.out)
     have Htk : Hid ((L.secs.take (m + 1)).map Sec.nm = (L.secs.take m).map Sec.nm ++ [s.nm]) := Lib.hid (by rw [List.take_succ_eq_append_getElem hlt, Hs.out, List.map_append]; rfl)
     have hba : Below wr.heap.size wr (wr.alloc (.cells #[.string s.nm, .int .i64 s.len, .int .i64 s.lim, .int .i64 s.grd, .int .i64 s.stn] 116)) := (Below.refl _ _).alloc (Nat.le_refl _) _
     have HM1 := Lib.hid (HMm.out.of_block (hba.block _ HMm.out.lt))
     have H5 := Lib.hid (BoxV.new wr [.string s.nm, .int .i64 s.len, .int .i64 s.lim, .int .i64 s.grd, .int .i64 s.stn] 116)
     have Hb1 : Hid (Below w0.heap.size w0 (wr.alloc (.cells #[.string s.nm, .int .i64 s.len, .int .i64 s.lim, .int .i64 s.grd, .int .i64 s.stn] 116))) := Lib.hid (Hbm.out.trans (hba.mono Hbm.out.size))
     have Hpb : Hid (bq ≠ wr.heap.size) := Lib.hid (by have := HMm.out.lt; omega)
     clear hc HEm Hs hba
     go_wp2_with fail
     refine (checkName_any s.nm bq ((L.secs.take m).map Sec.nm) _ hsz HM1.out (by rw [List.length_map, List.length_take]; unfold maxLen; omega)).mono ?_
     rintro e w2 ⟨rfl, hM2, hg2⟩
     have Hb2 : Hid (Below w0.heap.size w0 w2) := Lib.hid (Hb1.out.grown hg2 Hb1.out.size (fun q hq => by injection hq with hq; subst hq; exact Hbq.out))
     have H52 := Lib.hid (H5.out.grown hg2 (fun e => Hpb.out (by injection e with e; exact e.symm)))
     obtain ⟨z, Hz⟩ : ∃ z, Hid (nameErr ((L.secs.take m).map Sec.nm) s.nm = z) := ⟨_, Lib.hid rfl⟩
     rw [Hz.out] at hM2 ⊢
     obtain ⟨p5, hp5⟩ : ∃ p5, wr.heap.size = p5 := ⟨_, rfl⟩
     rw [hp5] at H52 ⊢
     clear hg2 q0 q1 q2 q3 q4 hbl HMm HM1 H5 Hb1 Hpb hp5
     by_cases hz : z = 0
     ·subst hz
      have HM2 : Hid (SeenM w2 bq ((L.secs.take (m + 1)).map Sec.nm)) := Lib.hid (by rw [Htk.out]; exact hM2 rfl)
      have HB := Lib.hid (HB0.out.below Hb2.out)
      have s0 := HB.out.2 0 _ rfl
      have s1 := HB.out.2 1 _ rfl
      have s2 := HB.out.2 2 _ rfl
      have s3 := HB.out.2 3 _ rfl
      have t0 := H52.out.2 0 _ rfl
      have t1 := H52.out.2 1 _ rfl
      have t2 := H52.out.2 2 _ rfl
      have t3 := H52.out.2 3 _ rfl
      have t4 := H52.out.2 4 _ rfl
      clear hM2
      go_wp2_with fail
      refine (sectionInRange_any ⟨A1, c1, A2, c2, some ⟨bs, os, none⟩, c3, A4, c4⟩ L s _).mono ?_
      rintro e w3 ⟨rfl, hb3⟩
      have HM3 := Lib.hid (HM2.out.of_block (hb3.block _ HM2.out.lt))
      have Hb3 := Lib.hid (Hb2.out.trans (hb3.mono Hb2.out.size))
      clear hb3 s0 s1 s2 s3 t0 t1 t2 t3 t4 HB H52 HM2
      cases hin : secB L.sts.length s
      ·have HF : Hid (R = 4) := Lib.hid (by
        have h1 : E = 4 := by rw [← HEm'.out, secsErr_cons, if_pos Hz.out, if_neg (by rw [hin]; decide)]
        rw [← HR2.out, h1]; rfl)
       clear hin
       go_wp2
       go_ret
       exact ⟨ret_int HF.out.symm, Hb0.out.trans (Hb3.out.mono Hb0.out.size)⟩
      ·have HE2 : Hid (secsErr L.sts.length ((L.secs.take (m + 1)).map Sec.nm) (L.secs.drop (m + 1)) = E) := Lib.hid (by rw [Htk.out, ← HEm'.out, secsErr_cons, if_pos Hz.out, if_pos hin])
       clear hin
       go_wp2
       go_roundw
       case rel => exact ⟨m + 1, by omega, by go_num, HE2, HM3, Hb3⟩
       case measure => simp [intOf]; omega
     ·have hzb : (z != 0) = true := by simpa using hz
      have HF : Hid (R = z) := Lib.hid (by
       have h1 : E = z := by rw [← HEm'.out, secsErr_cons, Hz.out, if_neg hz]
       rw [← HR2.out, h1]; unfold orErr; rw [if_neg hz])
      clear hM2 Hz hz
      go_wp2
      go_ret
      exact ⟨ret_int HF.out.symm, Hb0.out.trans (Hb2.out.mono Hb0.out.size)⟩
    ·have HF : Hid (T = R) := Lib.hid (by
      have h1 : E = 0 := by rw [← HEm.out, List.drop_of_length_le (by omega)]; rfl
      rw [← HR2.out, h1]; rfl)
     have HB := Lib.hid (HB0.out.below Hbm.out)
     have s0 := HB.out.2 0 _ rfl
     have s1 := HB.out.2 1 _ rfl
     have s2 := HB.out.2 2 _ rfl
     have s3 := HB.out.2 3 _ rfl
     have s5 := HB.out.1
     go_wp2_with fail
     refine (checkLinks_any ⟨A1, c1, A2, c2, A3, c3, A4, c4⟩ L _ (HR0.out.below Hbm.out) (by omega) (by omega)).mono ?_
     rintro e w3 ⟨rfl, hb3⟩
     rw [HT.out, HF.out]
     have Hb3 := Lib.hid (Hbm.out.trans (hb3.mono Hbm.out.size))
     clear hb3
     go_wp2
     go_ret
     exact ⟨rfl, Hb0.out.trans (Hb3.out.mono Hb0.out.size)⟩
end Go.Proofs.YtalfibohepbhfaaGreat
namespace Go.Proofs.YtalfibohepbhfaaGreat.Av
open Go.RowKit
def cRow {α : Type} (f : α → List FVal) (l : List α) : CVal := .f (.row (l.flatMap f) l.length)
def cLay (L : Lay) : List CVal := [cRow fStr L.sts, cRow fStr L.pts, cRow fSec L.secs, cRow fLnk L.lnks]
def aLay (L : Lay) : AVal := .agg (cLay L)
theorem flatMap_len {α β : Type} (f : α → List β) (n : Nat) (h : ∀ x, (f x).length = n) (l : List α) : (l.flatMap f).length = l.length * n := flatMap_lenB f n h l
theorem flatMap_at {α β : Type} (F : α → List β) (n : Nat) (hn : ∀ x, (F x).length = n) : ∀ (l : List α) (k j : Nat) (hk : k < l.length) (hj : j < n), (l.flatMap F)[k * n + j]? = (F l[k])[j]?
 | x :: l, 0, j, _, hj => by
  simp only [List.flatMap_cons, Nat.zero_mul, Nat.zero_add, List.getElem_cons_zero]
  rw [List.getElem?_append_left (by rw [hn]; exact hj)]
 | x :: l, k + 1, j, hk, hj => by
  simp only [List.flatMap_cons, List.getElem_cons_succ]
  have e : (k + 1) * n + j = n + (k * n + j) := by rw [Nat.succ_mul]; omega
  rw [e, List.getElem?_append_right (by rw [hn]; omega), hn, Nat.add_sub_cancel_left]
  exact flatMap_at F n hn l k j (by simpa using hk) hj
theorem rdf_of_row {α : Type} (n : Nat) (f : α → List Value) (F : α → List FVal) (hF : ∀ x, F x = (f x).map FVal.v) (hn : ∀ x, (f x).length = n) (hpos : 0 < n) {w : World} {κ : Nat → BK} {l : List α} {v : Value} (h : RepF w κ (.row (l.flatMap F) l.length) v) :
  ∃ A c, v = .slice A l.length c ∧ RdF n f w A l ∧ l.length ≤ c := by
 have hnF : ∀ x, (F x).length = n := fun x => by rw [hF, List.length_map, hn]
 rcases repF_row.1 h with ⟨g, o, cap, rfl, hle, hrow⟩ | ⟨h1, h2, rfl⟩
 ·refine ⟨_, cap, rfl, fun k hk => ⟨g, o, rfl, ?_, fun j u hj => ?_⟩, hle⟩
  ·refine (hrow.fits fun e => ?_).1
   have := flatMap_len F n hnF l
   rw [e] at this
   have h0 : 0 < l.length * n := Nat.mul_pos (by omega) hpos
   simp at this; omega
  ·have hjn : j < n := by rw [← hn l[k]]; exact (List.getElem?_eq_some_iff.1 hj).1
   have hlt : k * n + j < (l.flatMap F).length := by
    rw [flatMap_len F n hnF]
    have : (k + 1) * n ≤ l.length * n := Nat.mul_le_mul_right _ (by omega)
    rw [Nat.succ_mul] at this
    omega
   obtain ⟨y, hy1, hy2⟩ := hrow.cell (k * n + j) hlt
   have e1 := flatMap_at F n hnF l k j hk hjn
   rw [List.getElem?_eq_getElem hlt, hF, List.getElem?_map, hj] at e1
   injection e1 with e1
   rw [e1] at hy2
   rw [show o + k * n + j = o + (k * n + j) by omega, hy1, (repF_v.1 hy2).1]
 ·have hl : l = [] := List.eq_nil_of_length_eq_zero h2
  subst hl
  exact ⟨none, 0, rfl, fun k hk => by simp at hk, Nat.le_refl _⟩
structure LayFits (L : Lay) : Prop where
 s1 : Short L.sts
 s2 : Short L.pts
 s3 : Short (L.secs.map Sec.nm)
 m1 : L.sts.length ≤ 9223372036854775807
 m2 : L.pts.length ≤ 9223372036854775807
 m3 : L.secs.length ≤ 9223372036854775807
 m4 : L.lnks.length ≤ 9223372036854775807
theorem lay_rd {w : World} {κ : Nat → BK} {ρ : Nat → Nat} {l : Loc} {L : Lay} {v : Value} (hL : LayFits L) (h : RepA w κ ρ l (aLay L) v) : ∃ V : LayV, v = .agg #[.slice V.A1 L.sts.length V.c1, .slice V.A2 L.pts.length V.c2, .slice V.A3 L.secs.length V.c3, .slice V.A4 L.lnks.length V.c4] ∧ RdLay w V L := by
 obtain ⟨vs, rfl, hs, hi⟩ := h
 have hs' : vs.size = 4 := hs
 obtain ⟨A1, c1, e1, r1, n1⟩ := rdf_of_row 1 strF fStr (fun x => rfl) (fun x => rfl) (by omega) (hi 0 (by simp [cLay]) (by omega)).2
 obtain ⟨A2, c2, e2, r2, n2⟩ := rdf_of_row 1 strF fStr (fun x => rfl) (fun x => rfl) (by omega) (hi 1 (by simp [cLay]) (by omega)).2
 obtain ⟨A3, c3, e3, r3, n3⟩ := rdf_of_row 5 secF fSec (fun x => rfl) (fun x => rfl) (by omega) (hi 2 (by simp [cLay]) (by omega)).2
 obtain ⟨A4, c4, e4, r4, n4⟩ := rdf_of_row 6 lnkF fLnk (fun x => rfl) (fun x => rfl) (by omega) (hi 3 (by simp [cLay]) (by omega)).2
 refine ⟨⟨A1, c1, A2, c2, A3, c3, A4, c4⟩, ?_, r1, r2, r3, r4, hL.s1, hL.s2, hL.s3, n1, n2, n3, n4, hL.m1, hL.m2, hL.m3, hL.m4⟩
 congr 1
 apply Array.ext
 ·exact hs'
 ·intro i h1 h2
  match i, h2 with
  | 0, _ => exact e1
  | 1, _ => exact e2
  | 2, _ => exact e3
  | 3, _ => exact e4
theorem check_ok (L : Lay) (hL : LayFits L) : Ok Tryz.prog 78 [aLay L] [] (i64 (layErr L)) [] := by
 refine ok_old _ Tryz.func78 (by kernel_rfl) (by kernel_rfl) rfl rfl fun w κ ρ vals hs hr => ⟨_, plain_i, ?_⟩
 have hs : vals.size = 1 := hs
 obtain ⟨V, hv, hR⟩ := lay_rd hL (hr 0 (by simp) (by omega) (.slot 0))
 rw [one_arg hs, hv]
 exact layCheck_any V L w hR
theorem check_okV (L : Lay) (hL : LayFits L) : OkV Tryz.prog 78 [vLay L] [] (vI (layErr L)) [] := check_ok L hL
theorem refCheck_okV (L : Lay) (hL : LayFits L) : OkV Tryz.prog 64 [vLay L] [] (vI (layErr L)) [] := refCheck_ok2 L hL.s1 hL.s2 hL.s3 hL.m1 hL.m2 hL.m3 hL.m4
end Go.Proofs.YtalfibohepbhfaaGreat.Av
namespace Go.Proofs.YtalfibohepbhfaaGreat
theorem orErr_zero {a b : Int} (h : orErr a b = 0) : a = 0 ∧ b = 0 := by
 unfold orErr at h
 by_cases ha : a = 0
 ·rw [if_pos ha] at h; exact ⟨ha, h⟩
 ·rw [if_neg ha] at h; exact absurd h ha
theorem nameErr_zero {seen : List ByteArray} {s : ByteArray} (h : nameErr seen s = 0) : nameB s = true := by
 unfold nameErr at h
 cases hb : nameB s
 ·rw [if_pos hb] at h; cases h
 ·rfl
theorem namesErr_zero : ∀ (r : List ByteArray) (seen : List ByteArray), namesErr seen r = 0 → ∀ s ∈ r, nameB s = true
 | [], _, _, s, hs => by cases hs
 | x :: r, seen, h, s, hs => by
  simp only [namesErr] at h
  by_cases hx : nameErr seen x = 0
  ·rw [if_pos hx] at h
   rcases List.mem_cons.1 hs with rfl | hs
   ·exact nameErr_zero hx
   ·exact namesErr_zero r _ h s hs
  ·rw [if_neg hx] at h; exact absurd h hx
theorem secsErr_zero (nst : Nat) : ∀ (r : List Sec) (seen : List ByteArray), secsErr nst seen r = 0 → ∀ s ∈ r, nameB s.nm = true ∧ secB nst s = true
 | [], _, _, s, hs => by cases hs
 | x :: r, seen, h, s, hs => by
  simp only [secsErr] at h
  by_cases hx : nameErr seen x.nm = 0
  ·rw [if_pos hx] at h
   by_cases hb : secB nst x = true
   ·rw [if_pos hb] at h
    rcases List.mem_cons.1 hs with rfl | hs
    ·exact ⟨nameErr_zero hx, hb⟩
    ·exact secsErr_zero nst r _ h s hs
   ·rw [if_neg hb] at h; cases h
  ·rw [if_neg hx] at h; exact absurd h hx
theorem linksErr_zero (n p : Nat) : ∀ (r : List Lnk) (prev : List Lnk), linksErr n p prev r = 0 → ∀ k ∈ r, linkB n p k = true
 | [], _, _, s, hs => by cases hs
 | x :: r, prev, h, s, hs => by
  simp only [linksErr] at h
  by_cases hx : linkErr n p prev x = 0
  ·rw [if_pos hx] at h
   rcases List.mem_cons.1 hs with rfl | hs
   ·cases hb : linkB n p s
    ·unfold linkErr at hx; rw [if_pos hb] at hx; cases hx
    ·rfl
   ·exact linksErr_zero n p r _ h s hs
  ·rw [if_neg hx] at h; exact absurd h hx
structure Valid (L : Lay) : Prop where
 n1 : L.sts.length ≤ 24
 n2 : L.pts.length ≤ 48
 n3 : L.secs.length ≤ 96
 n4 : L.lnks.length ≤ 192
 n5 : 1 ≤ L.secs.length
 v1 : ∀ s ∈ L.sts, nameB s = true
 v2 : ∀ s ∈ L.pts, nameB s = true
 v3 : ∀ s ∈ L.secs, nameB s.nm = true ∧ secB L.sts.length s = true
 v4 : ∀ k ∈ L.lnks, linkB L.secs.length L.pts.length k = true
theorem valid_of {L : Lay} (h : layErr L = 0) : Valid L := by
 unfold layErr at h
 by_cases h1 : 24 < L.sts.length ∨ 48 < L.pts.length ∨ 96 < L.secs.length ∨ 192 < L.lnks.length
 ·rw [if_pos h1] at h; cases h
 ·rw [if_neg h1] at h
  by_cases h2 : L.secs.length = 0
  ·rw [if_pos h2] at h; cases h
  ·rw [if_neg h2] at h
   obtain ⟨a, h⟩ := orErr_zero h
   obtain ⟨b, h⟩ := orErr_zero h
   obtain ⟨c, d⟩ := orErr_zero h
   exact ⟨by omega, by omega, by omega, by omega, by omega, namesErr_zero _ _ a, namesErr_zero _ _ b, secsErr_zero _ _ _ c, linksErr_zero _ _ _ _ d⟩
theorem nameB_size {s : ByteArray} (h : nameB s = true) : s.size ≤ 12 := by
 unfold nameB at h
 simp at h
 exact h.1.1.2
end Go.Proofs.YtalfibohepbhfaaGreat
namespace Go.Proofs.YtalfibohepbhfaaGreat.Av
def Stp.ok (L : Lay) (s : Stp) : Bool := decide (0 ≤ s.sec) && decide (s.sec < L.secs.length) && (decide (s.dir = 0) || decide (s.dir = 1))
def outE (d : Int) : Int := if d = 1 then 0 else 1
def dirE (e : Int) : Int := if e = 0 then 0 else 1
def hopK (s : Stp) (k : Lnk) : Option Hop :=
 if k.a = s.sec ∧ k.ae = outE s.dir then some ⟨k.b, dirE k.be, k.pt, k.ps⟩ else
 if k.b = s.sec ∧ k.be = outE s.dir then some ⟨k.a, dirE k.ae, k.pt, k.ps⟩ else none
def hopsL (L : Lay) (s : Stp) : List Hop := L.lnks.filterMap (hopK s)
abbrev vSt (s : Stp) : SV := .agg [xI s.sec, xI s.dir]
def revD (d : Int) : Int := if d = 0 then 1 else 0
theorem reverse_ok (s : Stp) : OkV Tryz.prog 102 [vSt s] [] (vSt ⟨s.sec, revD s.dir⟩) [] := by
 unfold revD
 refine X_fn mixedX Tryz.func102 rfl (by kernel_rfl) (Nat.le_of_ble_eq_true (by kernel_rfl)) (by kernel_rfl) rfl rfl (Nat.le_of_ble_eq_true rfl) rfl rfl ?_
 simp only [sl0, Nat.zero_add, Nat.reduceAdd]
 repeat' (first|with_reducible (first|refine q_and ?_ ?_|exact True.intro|exact TkEq.nil _)|((with_reducible apply q_CI);intro hbq;(try simp only [bq] at hbq);(try (exfalso;omega)))|refine Rex.o (by (with_reducible constructor);apply Eq.refl) ?_|fail)
 ·rw [if_pos hbq]
  repeat' (first|with_reducible (first|refine Wk.o (by constructor) ?_|refine q_and ?_ ?_|exact True.intro)|refine VEq.agg ?_)
 ·rw [if_neg hbq]
  repeat' (first|with_reducible (first|refine Wk.o (by constructor) ?_|refine q_and ?_ ?_|exact True.intro)|refine VEq.agg ?_)
theorem hopsL_take (L : Lay) (s : Stp) (i : Nat) (h : i < L.lnks.length) : (L.lnks.take (i + 1)).filterMap (hopK s) = (L.lnks.take i).filterMap (hopK s) ++ (hopK s (L.lnks.getD i lnk0)).toList := by
 rw [List.take_succ_eq_append_getElem h, List.filterMap_append, List.getD_eq_getElem?_getD, List.getElem?_eq_getElem h]
 simp only [Option.getD_some, List.filterMap_cons, List.filterMap_nil]
 cases hopK s L.lnks[i] <;> rfl
theorem find_at {α : Type} {p : α → Bool} {d : α} : ∀ {l : List α} {i : Nat}, i < l.length → p (l.getD i d) = true → (∀ j, j < i → p (l.getD j d) = false) → l.find? p = some (l.getD i d)
 | x :: l, 0, _, h, _ => by
  have h' : p x = true := h
  simp [List.find?_cons, h']
 | x :: l, i + 1, hi, h, hj => by
  have h0 : p x = false := hj 0 (by omega)
  rw [List.find?_cons, h0]
  exact find_at (l := l) (by simpa using hi) h (fun j hj' => hj (j + 1) (by omega))
theorem find_no {α : Type} {p : α → Bool} {d : α} {l : List α} (h : ∀ j, j < l.length → p (l.getD j d) = false) : l.find? p = none := by
 rw [List.find?_eq_none]
 intro x hx
 obtain ⟨i, hi, rfl⟩ := List.mem_iff_getElem.1 hx
 have := h i hi
 rw [List.getD_eq_getElem?_getD, List.getElem?_eq_getElem hi] at this
 simpa using this
theorem upto_succ {q : Nat → Prop} {i : Nat} (h : ∀ j, j < i → q j) (hi : q i) : ∀ j, j < i + 1 → q j := fun j hj => by
 rcases Nat.lt_succ_iff_lt_or_eq.1 hj with h1 | h1
 ·exact h j h1
 ·exact h1 ▸ hi
def toB (t : Stp) (h : Hop) : Bool := decide (h.sec = t.sec) && decide (h.dir = t.dir)
def joinL (L : Lay) (a b : Stp) : Option Hop := (hopsL L a).find? (toB b)
theorem lnk_at {L : Lay} (hV : Valid L) {i : Nat} (h : i < L.lnks.length) : linkB L.secs.length L.pts.length (L.lnks.getD i lnk0) = true := by
 rw [List.getD_eq_getElem?_getD, List.getElem?_eq_getElem h]
 exact hV.v4 _ (List.getElem_mem h)
theorem linksErr_ne (n p : Nat) : ∀ (r : List Lnk) (prev : List Lnk), linksErr n p prev r = 0 → ∀ k ∈ r, ¬ (k.a = k.b ∧ k.ae = k.be)
 | [], _, _, s, hs => by cases hs
 | x :: r, prev, h, s, hs => by
  simp only [linksErr] at h
  by_cases hx : linkErr n p prev x = 0
  ·rw [if_pos hx] at h
   rcases List.mem_cons.1 hs with rfl | hs
   ·unfold linkErr at hx
    intro e
    split at hx
    ·cases hx
    ·rw [if_pos (by rw [e.1, e.2])] at hx; cases hx
   ·exact linksErr_ne n p r _ h s hs
  ·rw [if_neg hx] at h; exact absurd h hx
theorem ends_ne {L : Lay} (h : layErr L = 0) : ∀ k ∈ L.lnks, ¬ (k.a = k.b ∧ k.ae = k.be) := by
 unfold layErr at h
 split at h
 ·cases h
 ·split at h
  ·cases h
  ·exact linksErr_ne _ _ _ _ (orErr_zero (orErr_zero (orErr_zero h).2).2).2
def lvE (d : Int) : Int := if d = 0 then 1 else 0
def trK (s t : Stp) (k : Lnk) : Bool :=
 decide ((k.a = s.sec ∧ k.ae = lvE s.dir) ∧ (k.b = t.sec ∧ k.be = lvE (revD t.dir))) || decide ((k.a = t.sec ∧ k.ae = lvE (revD t.dir)) ∧ (k.b = s.sec ∧ k.be = lvE s.dir))
def transL (L : Lay) (s t : Stp) : Option Int := (L.lnks.find? (trK s t)).map Lnk.pt
theorem trK_hop {s t : Stp} {n p : Nat} {k : Lnk} (hs : s.dir = 0 ∨ s.dir = 1) (ht : t.dir = 0 ∨ t.dir = 1) (hk : linkB n p k = true) (hne : ¬ (k.a = k.b ∧ k.ae = k.be)) :
  (trK s t k = true → ∃ h, hopK s k = some h ∧ toB t h = true ∧ h.pt = k.pt) ∧ (trK s t k = false → ∀ h, hopK s k = some h → toB t h = false) := by
 obtain ⟨l1, l2, l3, l4, l5, l6, l7, l8, l9, l10, l11, l12, l13⟩ := linkB_of hk
 have o : outE s.dir = lvE s.dir := by unfold outE lvE; rcases hs with h | h <;> rw [h] <;> rfl
 have e : ∀ b, 0 ≤ b → b ≤ 1 → (dirE b = t.dir ↔ b = lvE (revD t.dir)) := fun b h0 h1 => by
  unfold dirE lvE revD
  rcases ht with h | h <;> rw [h] <;> (repeat' split) <;> omega
 unfold trK hopK toB
 rw [o]
 constructor
 ·intro h
  rw [Bool.or_eq_true, decide_eq_true_eq, decide_eq_true_eq] at h
  rcases h with ⟨h1, h2⟩ | ⟨h1, h2⟩
  ·rw [if_pos h1]
   exact ⟨_, rfl, by simp only [h2.1, (e _ l7 l8).2 h2.2, decide_true, Bool.and_self], rfl⟩
  ·rw [if_neg (fun x => hne ⟨x.1.trans h2.1.symm, x.2.trans h2.2.symm⟩), if_pos h2]
   exact ⟨_, rfl, by simp only [h1.1, (e _ l5 l6).2 h1.2, decide_true, Bool.and_self], rfl⟩
 ·intro h
  rw [Bool.or_eq_false_iff, decide_eq_false_iff_not, decide_eq_false_iff_not] at h
  intro x hx
  split at hx
  ·rename_i h1
   injection hx with hx; subst hx
   rw [Bool.and_eq_false_iff, decide_eq_false_iff_not, decide_eq_false_iff_not, e _ l7 l8]
   by_cases h2 : k.b = t.sec
   ·exact .inr fun h3 => h.1 ⟨h1, h2, h3⟩
   ·exact .inl h2
  ·split at hx
   ·rename_i h1
    injection hx with hx; subst hx
    rw [Bool.and_eq_false_iff, decide_eq_false_iff_not, decide_eq_false_iff_not, e _ l5 l6]
    by_cases h2 : k.a = t.sec
    ·exact .inr fun h3 => h.2 ⟨⟨h2, h3⟩, h1⟩
    ·exact .inl h2
   ·cases hx
theorem trans_join_aux {s t : Stp} {n p : Nat} (hs : s.dir = 0 ∨ s.dir = 1) (ht : t.dir = 0 ∨ t.dir = 1) : ∀ (l : List Lnk), (∀ k ∈ l, linkB n p k = true) → (∀ k ∈ l, ¬ (k.a = k.b ∧ k.ae = k.be)) →
  (l.find? (trK s t)).map Lnk.pt = ((l.filterMap (hopK s)).find? (toB t)).map Hop.pt
 | [], _, _ => rfl
 | k :: l, h1, h2 => by
  have ih := trans_join_aux hs ht l (fun x hx => h1 x (List.mem_cons_of_mem _ hx)) (fun x hx => h2 x (List.mem_cons_of_mem _ hx))
  obtain ⟨a, b⟩ := trK_hop hs ht (h1 k (List.mem_cons_self ..)) (h2 k (List.mem_cons_self ..))
  rw [List.find?_cons, List.filterMap_cons]
  cases hk : trK s t k with
  | true =>
   obtain ⟨x, e1, e2, e3⟩ := a hk
   simp only [e1, List.find?_cons, e2, Option.map_some, e3]
  | false =>
   cases hh : hopK s k with
   | none => simpa using ih
   | some x =>
    have := b hk x hh
    simp only [List.find?_cons, this]
    exact ih
theorem trans_join {L : Lay} (hv : layErr L = 0) {s t : Stp} (hs : s.dir = 0 ∨ s.dir = 1) (ht : t.dir = 0 ∨ t.dir = 1) : transL L s t = (joinL L s t).map Hop.pt :=
 trans_join_aux hs ht L.lnks (valid_of hv).v4 (ends_ne hv)
theorem ok_dir {L : Lay} {s : Stp} (h : s.ok L = true) : 0 ≤ s.sec ∧ s.sec < L.secs.length ∧ (s.dir = 0 ∨ s.dir = 1) := by
 unfold Stp.ok at h
 simp only [Bool.and_eq_true, Bool.or_eq_true, decide_eq_true_eq] at h
 exact ⟨h.1.1, h.1.2, h.2⟩
theorem hopK_a {s : Stp} {k : Lnk} {e : Int} (ho : outE s.dir = e) (h : k.a = s.sec ∧ k.ae = e) : hopK s k = some ⟨k.b, dirE k.be, k.pt, k.ps⟩ := if_pos (by rw [ho]; exact h)
theorem hopK_b {s : Stp} {k : Lnk} {e : Int} (ho : outE s.dir = e) (hn : ¬ k.a = s.sec ∨ ¬ k.ae = e) (h : k.b = s.sec ∧ k.be = e) : hopK s k = some ⟨k.a, dirE k.ae, k.pt, k.ps⟩ :=
 (if_neg (by rw [ho]; omega)).trans (if_pos (by rw [ho]; exact h))
theorem hopK_n {s : Stp} {k : Lnk} {e : Int} (ho : outE s.dir = e) (hn : ¬ k.a = s.sec ∨ ¬ k.ae = e) (h : ¬ k.b = s.sec ∨ ¬ k.be = e) : hopK s k = none :=
 (if_neg (by rw [ho]; omega)).trans (if_neg (by rw [ho]; omega))
theorem dirE_1 {e : Int} (h : e = 1) : dirE e = 1 := by subst h; rfl
theorem dirE_0 {e : Int} (h0 : 0 ≤ e ∧ e ≤ 1) (h : ¬ e = 1) : dirE e = 0 := by unfold dirE; rw [if_pos (by omega)]
theorem refHops_ok (L : Lay) (s : Stp) (hV : Valid L) : OkV Tryz.prog 50 [vLay L, vSt s] [] (.c (rHop (hopsL L s))) [] := by
 have hlen := hV.n4
 unfold vLay
 refine X_fn mixedX Tryz.func50 rfl (by kernel_rfl) (Nat.le_of_ble_eq_true (by kernel_rfl)) (by kernel_rfl) rfl rfl (Nat.le_of_ble_eq_true rfl) rfl rfl ?_
 simp only [sl0, Nat.zero_add, Nat.reduceAdd]
 repeat' (first|with_reducible (first|refine q_and ?_ ?_|exact True.intro)|((with_reducible apply q_CI);intro hbq;(try simp only [bq] at hbq);(try (exfalso;omega)))|refine Rex.o (by (with_reducible constructor);apply Eq.refl) ?_|fail)
 ·have ho : outE s.dir = 0 := by unfold outE; (first | rw [if_pos hbq] | rw [if_neg hbq])
  refine W_loopS (fun i : Nat => SS [sC 2 (pB 0), sC 5 (pB 2), sC 6 (tHop ((L.lnks.take i).filterMap (hopK s))), sI 7 i] [some (.cells [rStr L.sts, rStr L.pts, rSec L.secs, rLnk L.lnks]), none, some (.cells [xI s.sec, xI 0])]) (fun i => i ≤ L.lnks.length) (fun i => L.lnks.length - i) 0 ?_ (by omega) ?_
  ·
   refine X_weak rfl rfl rfl ?_ ?_ <;> repeat' (first|with_reducible (first|refine Wk.o (by constructor) ?_|refine q_and ?_ ?_|exact True.intro)|refine q_AgS rfl ?_ ?_|exact CLe.nil_tipS|exact (rfl : known _ = _)|omega)
  ·intro i hi
   have hlt : ((L.lnks.take i).filterMap (hopK s)).length ≤ i := Nat.le_trans (List.length_filterMap_le _ _) (by rw [List.length_take]; omega)
   have hl : i < L.lnks.length → linkB L.secs.length L.pts.length (L.lnks.getD i lnk0) = true := fun h => lnk_at hV h
   have hk : (i : Int) < L.lnks.length → 0 ≤ (L.lnks.getD (i : Int).toNat lnk0).a ∧ 0 ≤ (L.lnks.getD (i : Int).toNat lnk0).b ∧ (0 ≤ (L.lnks.getD (i : Int).toNat lnk0).ae ∧ (L.lnks.getD (i : Int).toNat lnk0).ae ≤ 1) ∧ (0 ≤ (L.lnks.getD (i : Int).toNat lnk0).be ∧ (L.lnks.getD (i : Int).toNat lnk0).be ≤ 1) := fun h => by
    obtain ⟨l1, l2, l3, l4, l5, l6, l7, l8, _⟩ := linkB_of (hl (by omega))
    exact ⟨l1, l3, ⟨l5, l6⟩, ⟨l7, l8⟩⟩
   repeat' (first|with_reducible (first|refine q_and ?_ ?_|exact True.intro|exact TkEq.nil _|refine Red.o (by constructor) ?_|assumption)|((with_reducible apply q_CI);intro hbq;(try simp only [bq] at hbq);(try (exfalso;omega)))|refine Rex.o (by (with_reducible constructor);apply Eq.refl) ?_|(intro (hgq : (_ : Bool) = true);(try simp only [bq] at hgq))|((with_reducible apply q_VOk);exact fun _ => ⟨rfl,rfl⟩)|((with_reducible apply q_bt);simp only [bq])|((with_reducible apply q_eqN);rfl)|omega)
   all_goals (try (exfalso; have := hk (by assumption); omega))
   ·rename_i c1 c2 c3
    have e := hopK_a ho c2
    rw [dirE_1 hbq] at e
    refine LoopK_n (i + 1) ?_ ?_ ?_
    rotate_left
    ·(try dsimp only); omega
    ·(try dsimp only); omega
    refine X_weak rfl rfl rfl ?_ ?_ <;> repeat' (first|with_reducible (first|refine Wk.o (by constructor) ?_|refine q_and ?_ ?_|exact True.intro)|refine q_AgS rfl ?_ ?_|exact (rfl : known _ = _)|omega)
    all_goals (simp only [Int.toNat_natCast] at e ⊢; rw [hopsL_take L s i (by omega), e]; simp [fHop, fI])
   ·rename_i c1 c2 c3
    have e := hopK_a ho c2
    rw [dirE_0 (hk c1).2.2.2 hbq] at e
    refine LoopK_n (i + 1) ?_ ?_ ?_
    rotate_left
    ·(try dsimp only); omega
    ·(try dsimp only); omega
    refine X_weak rfl rfl rfl ?_ ?_ <;> repeat' (first|with_reducible (first|refine Wk.o (by constructor) ?_|refine q_and ?_ ?_|exact True.intro)|refine q_AgS rfl ?_ ?_|exact (rfl : known _ = _)|omega)
    all_goals (simp only [Int.toNat_natCast] at e ⊢; rw [hopsL_take L s i (by omega), e]; simp [fHop, fI])
   ·rename_i c1 c2 c3 c4
    have e := hopK_b ho c2 c3
    rw [dirE_1 hbq] at e
    refine LoopK_n (i + 1) ?_ ?_ ?_
    rotate_left
    ·(try dsimp only); omega
    ·(try dsimp only); omega
    refine X_weak rfl rfl rfl ?_ ?_ <;> repeat' (first|with_reducible (first|refine Wk.o (by constructor) ?_|refine q_and ?_ ?_|exact True.intro)|refine q_AgS rfl ?_ ?_|exact (rfl : known _ = _)|omega)
    all_goals (simp only [Int.toNat_natCast] at e ⊢; rw [hopsL_take L s i (by omega), e]; simp [fHop, fI])
   ·rename_i c1 c2 c3 c4
    have e := hopK_b ho c2 c3
    rw [dirE_0 (hk c1).2.2.1 hbq] at e
    refine LoopK_n (i + 1) ?_ ?_ ?_
    rotate_left
    ·(try dsimp only); omega
    ·(try dsimp only); omega
    refine X_weak rfl rfl rfl ?_ ?_ <;> repeat' (first|with_reducible (first|refine Wk.o (by constructor) ?_|refine q_and ?_ ?_|exact True.intro)|refine q_AgS rfl ?_ ?_|exact (rfl : known _ = _)|omega)
    all_goals (simp only [Int.toNat_natCast] at e ⊢; rw [hopsL_take L s i (by omega), e]; simp [fHop, fI])
   ·rename_i c1 c2 c3
    have e := hopK_n ho c2 c3
    refine LoopK_n (i + 1) ?_ ?_ ?_
    rotate_left
    ·(try dsimp only); omega
    ·(try dsimp only); omega
    refine X_weak rfl rfl rfl ?_ ?_ <;> repeat' (first|with_reducible (first|refine Wk.o (by constructor) ?_|refine q_and ?_ ?_|exact True.intro)|refine q_AgS rfl ?_ ?_|exact (rfl : known _ = _)|omega)
    all_goals (simp only [Int.toNat_natCast] at e ⊢; rw [hopsL_take L s i (by omega), e]; simp)
   ·have hie : i = L.lnks.length := by omega
    subst hie
    repeat' (first|with_reducible (first|refine Wk.o (by constructor) ?_|fail)|refine VEq.c ?_)
    all_goals (unfold hopsL; rw [List.take_length])
 ·have ho : outE s.dir = 1 := by unfold outE; (first | rw [if_pos hbq] | rw [if_neg hbq])
  refine W_loopS (fun i : Nat => SS [sC 2 (pB 0), sC 5 (pB 2), sC 6 (tHop ((L.lnks.take i).filterMap (hopK s))), sI 7 i] [some (.cells [rStr L.sts, rStr L.pts, rSec L.secs, rLnk L.lnks]), none, some (.cells [xI s.sec, xI 1])]) (fun i => i ≤ L.lnks.length) (fun i => L.lnks.length - i) 0 ?_ (by omega) ?_
  ·
   refine X_weak rfl rfl rfl ?_ ?_ <;> repeat' (first|with_reducible (first|refine Wk.o (by constructor) ?_|refine q_and ?_ ?_|exact True.intro)|refine q_AgS rfl ?_ ?_|exact CLe.nil_tipS|exact (rfl : known _ = _)|omega)
  ·intro i hi
   have hlt : ((L.lnks.take i).filterMap (hopK s)).length ≤ i := Nat.le_trans (List.length_filterMap_le _ _) (by rw [List.length_take]; omega)
   have hl : i < L.lnks.length → linkB L.secs.length L.pts.length (L.lnks.getD i lnk0) = true := fun h => lnk_at hV h
   have hk : (i : Int) < L.lnks.length → 0 ≤ (L.lnks.getD (i : Int).toNat lnk0).a ∧ 0 ≤ (L.lnks.getD (i : Int).toNat lnk0).b ∧ (0 ≤ (L.lnks.getD (i : Int).toNat lnk0).ae ∧ (L.lnks.getD (i : Int).toNat lnk0).ae ≤ 1) ∧ (0 ≤ (L.lnks.getD (i : Int).toNat lnk0).be ∧ (L.lnks.getD (i : Int).toNat lnk0).be ≤ 1) := fun h => by
    obtain ⟨l1, l2, l3, l4, l5, l6, l7, l8, _⟩ := linkB_of (hl (by omega))
    exact ⟨l1, l3, ⟨l5, l6⟩, ⟨l7, l8⟩⟩
   repeat' (first|with_reducible (first|refine q_and ?_ ?_|exact True.intro|exact TkEq.nil _|refine Red.o (by constructor) ?_|assumption)|((with_reducible apply q_CI);intro hbq;(try simp only [bq] at hbq);(try (exfalso;omega)))|refine Rex.o (by (with_reducible constructor);apply Eq.refl) ?_|(intro (hgq : (_ : Bool) = true);(try simp only [bq] at hgq))|((with_reducible apply q_VOk);exact fun _ => ⟨rfl,rfl⟩)|((with_reducible apply q_bt);simp only [bq])|((with_reducible apply q_eqN);rfl)|omega)
   all_goals (try (exfalso; have := hk (by assumption); omega))
   ·rename_i c1 c2 c3
    have e := hopK_a ho c2
    rw [dirE_1 hbq] at e
    refine LoopK_n (i + 1) ?_ ?_ ?_
    rotate_left
    ·(try dsimp only); omega
    ·(try dsimp only); omega
    refine X_weak rfl rfl rfl ?_ ?_ <;> repeat' (first|with_reducible (first|refine Wk.o (by constructor) ?_|refine q_and ?_ ?_|exact True.intro)|refine q_AgS rfl ?_ ?_|exact (rfl : known _ = _)|omega)
    all_goals (simp only [Int.toNat_natCast] at e ⊢; rw [hopsL_take L s i (by omega), e]; simp [fHop, fI])
   ·rename_i c1 c2 c3
    have e := hopK_a ho c2
    rw [dirE_0 (hk c1).2.2.2 hbq] at e
    refine LoopK_n (i + 1) ?_ ?_ ?_
    rotate_left
    ·(try dsimp only); omega
    ·(try dsimp only); omega
    refine X_weak rfl rfl rfl ?_ ?_ <;> repeat' (first|with_reducible (first|refine Wk.o (by constructor) ?_|refine q_and ?_ ?_|exact True.intro)|refine q_AgS rfl ?_ ?_|exact (rfl : known _ = _)|omega)
    all_goals (simp only [Int.toNat_natCast] at e ⊢; rw [hopsL_take L s i (by omega), e]; simp [fHop, fI])
   ·rename_i c1 c2 c3 c4
    have e := hopK_b ho c2 c3
    rw [dirE_1 hbq] at e
    refine LoopK_n (i + 1) ?_ ?_ ?_
    rotate_left
    ·(try dsimp only); omega
    ·(try dsimp only); omega
    refine X_weak rfl rfl rfl ?_ ?_ <;> repeat' (first|with_reducible (first|refine Wk.o (by constructor) ?_|refine q_and ?_ ?_|exact True.intro)|refine q_AgS rfl ?_ ?_|exact (rfl : known _ = _)|omega)
    all_goals (simp only [Int.toNat_natCast] at e ⊢; rw [hopsL_take L s i (by omega), e]; simp [fHop, fI])
   ·rename_i c1 c2 c3 c4
    have e := hopK_b ho c2 c3
    rw [dirE_0 (hk c1).2.2.1 hbq] at e
    refine LoopK_n (i + 1) ?_ ?_ ?_
    rotate_left
    ·(try dsimp only); omega
    ·(try dsimp only); omega
    refine X_weak rfl rfl rfl ?_ ?_ <;> repeat' (first|with_reducible (first|refine Wk.o (by constructor) ?_|refine q_and ?_ ?_|exact True.intro)|refine q_AgS rfl ?_ ?_|exact (rfl : known _ = _)|omega)
    all_goals (simp only [Int.toNat_natCast] at e ⊢; rw [hopsL_take L s i (by omega), e]; simp [fHop, fI])
   ·rename_i c1 c2 c3
    have e := hopK_n ho c2 c3
    refine LoopK_n (i + 1) ?_ ?_ ?_
    rotate_left
    ·(try dsimp only); omega
    ·(try dsimp only); omega
    refine X_weak rfl rfl rfl ?_ ?_ <;> repeat' (first|with_reducible (first|refine Wk.o (by constructor) ?_|refine q_and ?_ ?_|exact True.intro)|refine q_AgS rfl ?_ ?_|exact (rfl : known _ = _)|omega)
    all_goals (simp only [Int.toNat_natCast] at e ⊢; rw [hopsL_take L s i (by omega), e]; simp)
   ·have hie : i = L.lnks.length := by omega
    subst hie
    repeat' (first|with_reducible (first|refine Wk.o (by constructor) ?_|fail)|refine VEq.c ?_)
    all_goals (unfold hopsL; rw [List.take_length])
def hop0 : Hop := ⟨0, 0, 0, 0⟩
theorem joined_ok (L : Lay) (a b : Stp) (hV : Valid L) : OkV Tryz.prog 60 [vLay L, vSt a, vSt b] [] (.tup [.agg (vHop ((joinL L a b).getD hop0)), .c (xB (joinL L a b).isSome)]) [] := by
 have hH := refHops_ok L a hV
 have hlen : (hopsL L a).length ≤ 192 := Nat.le_trans (List.length_filterMap_le _ _) hV.n4
 unfold joinL
 generalize hopsL L a = hs at hH hlen
 unfold vLay at hH ⊢
 refine X_fn mixedX Tryz.func60 rfl (by kernel_rfl) (Nat.le_of_ble_eq_true (by kernel_rfl)) (by kernel_rfl) rfl rfl (Nat.le_of_ble_eq_true rfl) rfl rfl ?_
 simp only [sl0, Nat.zero_add, Nat.reduceAdd]
 repeat' (first|with_reducible (first|refine q_and ?_ ?_|exact True.intro|refine Red.o (by constructor) ?_|fail)|((with_reducible apply q_call);refine X_pure (hH) rfl ?_)|refine Rex.o (by (with_reducible constructor);apply Eq.refl) ?_|fail)
 refine W_loopS (fun i : Nat => SS [sC 5 (pB 2), sC 6 (pB 3), sC 8 (rHop hs), sI 9 i] [none, none, some (.cells [xI b.sec, xI b.dir]), some (.cells [xI 0, xI 0, xI 0, xI 0])]) (fun i => i ≤ hs.length ∧ ∀ j, j < i → toB b (hs.getD j ⟨0, 0, 0, 0⟩) = false) (fun i => hs.length - i) 0 ?_ ⟨by omega, fun j hj => by omega⟩ ?_
 ·
  refine X_weak rfl rfl rfl ?_ ?_ <;> repeat' (first|with_reducible (first|refine Wk.o (by constructor) ?_|refine q_and ?_ ?_|exact True.intro)|refine q_AgS rfl ?_ ?_|exact (rfl : known _ = _)|omega)
 ·intro i hi
  obtain ⟨hi, hno⟩ := hi
  repeat' (first|with_reducible (first|refine q_and ?_ ?_|exact True.intro|exact TkEq.nil _|refine Red.o (by constructor) ?_|assumption)|((with_reducible apply q_CI);intro hbq;(try simp only [bq] at hbq);(try (exfalso;omega)))|refine Rex.o (by (with_reducible constructor);apply Eq.refl) ?_|((with_reducible apply q_VOk);exact fun _ => ⟨rfl,rfl⟩)|((with_reducible apply q_CRB);kernel_rfl)|omega)
  ·have hf := find_at (p := toB b) (d := ⟨0, 0, 0, 0⟩) (l := hs) (i := i) (by omega) (by unfold toB; simp only [Bool.and_eq_true, decide_eq_true_eq]; exact hbq) hno
   rw [hf]
   rfl
  ·
   refine LoopK_n (i + 1) ?_ (⟨by omega, upto_succ hno (by unfold toB; simp only [Bool.and_eq_false_iff, decide_eq_false_iff_not]; exact hbq)⟩) (by (try dsimp only); omega)
   refine X_weak rfl rfl rfl ?_ ?_ <;> repeat' (first|with_reducible (first|refine Wk.o (by constructor) ?_|refine q_and ?_ ?_|exact True.intro)|refine q_AgS rfl ?_ ?_|exact (rfl : known _ = _)|omega)
  ·have hf := find_no (p := toB b) (d := ⟨0, 0, 0, 0⟩) (l := hs) (fun j hj => hno j (by omega))
   rw [hf]
   rfl
theorem leaving_ok (s : Stp) : OkV Tryz.prog 101 [vSt s] [] (.agg [xI s.sec, xI (lvE s.dir)]) [] := by
 unfold lvE
 refine X_fn mixedX Tryz.func101 rfl (by kernel_rfl) (Nat.le_of_ble_eq_true (by kernel_rfl)) (by kernel_rfl) rfl rfl (Nat.le_of_ble_eq_true rfl) rfl rfl ?_
 simp only [sl0, Nat.zero_add, Nat.reduceAdd]
 repeat' (first|with_reducible (first|refine q_and ?_ ?_|exact True.intro|exact TkEq.nil _)|((with_reducible apply q_CI);intro hbq;(try simp only [bq] at hbq);(try (exfalso;omega)))|refine Rex.o (by (with_reducible constructor);apply Eq.refl) ?_|fail)
 ·rw [if_pos hbq]
  repeat' (first|with_reducible (first|refine Wk.o (by constructor) ?_|refine q_and ?_ ?_|exact True.intro)|refine VEq.agg ?_)
 ·rw [if_neg hbq]
  repeat' (first|with_reducible (first|refine Wk.o (by constructor) ?_|refine q_and ?_ ?_|exact True.intro)|refine VEq.agg ?_)
theorem isStep_ok (L : Lay) (hl : L.secs.length ≤ 9000000000000000000) (s : Stp) : OkV Tryz.prog 79 [vLay L, vSt s] [] (vB (s.ok L)) [] := by
 unfold Stp.ok
 unfold vLay
 refine X_fn mixedX Tryz.func79 rfl (by kernel_rfl) (Nat.le_of_ble_eq_true (by kernel_rfl)) (by kernel_rfl) rfl rfl (Nat.le_of_ble_eq_true rfl) rfl rfl ?_
 simp only [sl0, Nat.zero_add, Nat.reduceAdd]
 repeat' (first|with_reducible (first|refine q_and ?_ ?_|exact True.intro|exact TkEq.nil _|assumption)|refine Rex.o (by (with_reducible constructor);apply Eq.refl) ?_|(intro (hgq : (_ : Bool) = true);(try simp only [bq] at hgq))|(intro (hgq : (_ : Bool) = false);(try simp only [bq] at hgq))|((with_reducible apply q_bt);simp only [bq])|(simp only [hgq,bq];done)|omega)
 repeat' (first|with_reducible (first|refine Wk.o (by constructor) ?_|exact True.intro)|refine VEq.c ?_)
theorem transition_ok (L : Lay) (hV : Valid L) (s t : Stp) : OkV Tryz.prog 80 [vLay L, vSt s, vSt t] [] (.tup [.c (xI ((transL L s t).getD 0)), .c (xB (transL L s t).isSome)]) [] := by
 have h1 := leaving_ok s
 have h2 := reverse_ok t
 have h3 := leaving_ok ⟨t.sec, revD t.dir⟩
 have hlen := hV.n4
 unfold transL
 unfold vLay
 refine X_fn mixedX Tryz.func80 rfl (by kernel_rfl) (Nat.le_of_ble_eq_true (by kernel_rfl)) (by kernel_rfl) rfl rfl (Nat.le_of_ble_eq_true rfl) rfl rfl ?_
 simp only [sl0, Nat.zero_add, Nat.reduceAdd]
 repeat' (first|with_reducible (first|refine q_and ?_ ?_|exact True.intro|refine Red.o (by constructor) ?_|fail)|((with_reducible apply q_call);first|refine X_pure (h1) rfl ?_|refine X_pure (h2) rfl ?_|refine X_pure (h3) rfl ?_)|((with_reducible apply q_W);refine W_two [0, 1, 2, 3, 4] 5 6 [7, 8] 3 (by kernel_rfl) rfl rfl rfl rfl ?_)|((with_reducible apply q_TB);kernel_rfl)|((with_reducible apply q_LB);exact LB_SS rfl)|((with_reducible apply q_RK);refine RK_SS rfl ?_)|refine Rex.o (by (with_reducible constructor);apply Eq.refl) ?_|fail)
 all_goals (
  refine W_loopS (fun i : Nat => SS [sC 8 (pB 3), sC 9 (pB 4), sC 20 (rLnk L.lnks), sI 21 L.lnks.length, sI 22 i] [none, none, none, some (.cells [xI s.sec, xI (lvE s.dir)]), some (.cells [xI t.sec, xI (lvE (revD t.dir))])]) (fun i => i ≤ L.lnks.length ∧ ∀ j, j < i → trK s t (L.lnks.getD j lnk0) = false) (fun i => L.lnks.length - i) 0 ?_ ⟨by omega, fun j hj => by omega⟩ ?_)
 any_goals (
  show Weak _ _ _
  refine X_weak rfl rfl rfl ?_ ?_ <;> repeat' (first|with_reducible (first|refine Wk.o (by constructor) ?_|refine q_and ?_ ?_|exact True.intro)|refine q_AgS rfl ?_ ?_|exact (rfl : known _ = _)|omega)
  done)
 all_goals (
  intro i hi
  obtain ⟨hi, hno⟩ := hi
  repeat' (first|with_reducible (first|refine q_and ?_ ?_|exact True.intro|exact TkEq.nil _|refine Red.o (by constructor) ?_|assumption)|((with_reducible apply q_W);refine W_two [0, 1, 2, 3, 4, 5, 6, 7, 8, 9] 10 11 [12, 13] 6 (by kernel_rfl) rfl rfl rfl rfl ?_)|((with_reducible apply q_TB);kernel_rfl)|((with_reducible apply q_LB);exact LB_SS rfl)|((with_reducible apply q_RK);refine RK_SS rfl ?_)|((with_reducible apply q_CI);intro hbq;(try simp only [bq] at hbq);(try (exfalso;omega)))|refine Rex.o (by (with_reducible constructor);apply Eq.refl) ?_|(intro (hgq : (_ : Bool) = true);(try simp only [bq] at hgq))|(intro (hgq : (_ : Bool) = false);(try simp only [bq] at hgq))|((with_reducible apply q_VOk);exact fun _ => ⟨rfl,rfl⟩)|((with_reducible apply q_bt);simp only [bq])|(simp only [hgq,bq];done)|omega)
  )
 all_goals first
  | (
   have hf := find_at (p := trK s t) (d := lnk0) (l := L.lnks) (i := i) (by omega) (by unfold trK; simp only [Bool.or_eq_true, decide_eq_true_eq]; exact hbq) hno
   rw [hf]
   rfl)
  | (
   refine LoopK_n (i + 1) ?_ (⟨by omega, upto_succ hno (by simp only [Int.toNat_natCast] at hbq; unfold trK; simp only [Bool.or_eq_false_iff, decide_eq_false_iff_not]; omega)⟩) (by (try dsimp only); omega)
   refine X_weak rfl rfl rfl ?_ ?_ <;> repeat' (first|with_reducible (first|refine Wk.o (by constructor) ?_|refine q_and ?_ ?_|exact True.intro)|refine q_AgS rfl ?_ ?_|exact (rfl : known _ = _)|omega)
   done)
  | (
   have hf := find_no (p := trK s t) (d := lnk0) (l := L.lnks) (fun j hj => hno j (by omega))
   rw [hf]
   rfl)
abbrev st0 : Stp := ⟨0, 0⟩
def dupAt (st : List Stp) (i : Nat) : Bool := (st.take i).any fun s => decide (s.sec = (st.getD i st0).sec)
def dupB (st : List Stp) : Bool := (List.range st.length).any (dupAt st)
def linkAt (L : Lay) (st : List Stp) (i : Nat) : Option Hop := joinL L (st.getD i st0) (st.getD (i + 1) st0)
def linkedB (L : Lay) (st : List Stp) : Bool := (List.range (st.length - 1)).all fun i => (linkAt L st i).isSome
def ptsL (L : Lay) (st : List Stp) (n : Nat) : List Int := (List.range n).map fun i => ((linkAt L st i).map Hop.pt).getD 0
def rteErr (L : Lay) (r : Rte) : Int :=
 if layErr L ≠ 0 then 1 else if 24 < r.st.length ∨ 2 < r.ov then 7 else if r.ov < 0 ∨ (r.st.length : Int) - r.ov < 2 then 4 else
 if r.st.all (Stp.ok L) = false then 4 else if dupB r.st = true then 5 else if linkedB L r.st = false then 11 else 0
section
variable {L : Lay} {r : Rte}
theorem rte_1 (h : ¬ layErr L = 0) : rteErr L r = 1 := if_pos h
theorem rte_7 (h : layErr L = 0) (h2 : 24 < r.st.length ∨ 2 < r.ov) : rteErr L r = 7 := by unfold rteErr; rw [if_neg (by simpa using h), if_pos h2]
theorem rte_4 (h : layErr L = 0) (h2 : ¬ (24 < r.st.length ∨ 2 < r.ov)) (h3 : r.ov < 0 ∨ (r.st.length : Int) - r.ov < 2) : rteErr L r = 4 := by unfold rteErr; rw [if_neg (by simpa using h), if_neg h2, if_pos h3]
theorem all_no {l : List Stp} {p : Stp → Bool} {i : Nat} (hi : i < l.length) (h : p (l.getD i st0) = false) : l.all p = false := by
 rw [List.getD_eq_getElem?_getD, List.getElem?_eq_getElem hi] at h
 rw [Bool.eq_false_iff]
 intro ha
 have := List.all_eq_true.1 ha _ (List.getElem_mem hi)
 rw [show (some l[i]).getD st0 = l[i] from rfl, this] at h
 cases h
theorem all_yes {l : List Stp} {p : Stp → Bool} (h : ∀ j, j < l.length → p (l.getD j st0) = true) : l.all p = true := by
 rw [List.all_eq_true]
 intro x hx
 obtain ⟨i, hi, rfl⟩ := List.mem_iff_getElem.1 hx
 have := h i hi
 rwa [List.getD_eq_getElem?_getD, List.getElem?_eq_getElem hi] at this
theorem rte_4b (h : layErr L = 0) (h2 : ¬ (24 < r.st.length ∨ 2 < r.ov)) (h3 : ¬ (r.ov < 0 ∨ (r.st.length : Int) - r.ov < 2)) (h4 : r.st.all (Stp.ok L) = false) : rteErr L r = 4 := by unfold rteErr; rw [if_neg (by simpa using h), if_neg h2, if_neg h3, if_pos h4]
theorem rte_5 (h : layErr L = 0) (h2 : ¬ (24 < r.st.length ∨ 2 < r.ov)) (h3 : ¬ (r.ov < 0 ∨ (r.st.length : Int) - r.ov < 2)) (h4 : r.st.all (Stp.ok L) = true) (h5 : dupB r.st = true) : rteErr L r = 5 := by unfold rteErr; rw [if_neg (by simpa using h), if_neg h2, if_neg h3, if_neg (by rw [h4]; decide), if_pos h5]
theorem rte_11 (h : layErr L = 0) (h2 : ¬ (24 < r.st.length ∨ 2 < r.ov)) (h3 : ¬ (r.ov < 0 ∨ (r.st.length : Int) - r.ov < 2)) (h4 : r.st.all (Stp.ok L) = true) (h5 : dupB r.st = false) (h6 : linkedB L r.st = false) : rteErr L r = 11 := by unfold rteErr; rw [if_neg (by simpa using h), if_neg h2, if_neg h3, if_neg (by rw [h4]; decide), if_neg (by rw [h5]; decide), if_pos h6]
theorem rte_0 (h : layErr L = 0) (h2 : ¬ (24 < r.st.length ∨ 2 < r.ov)) (h3 : ¬ (r.ov < 0 ∨ (r.st.length : Int) - r.ov < 2)) (h4 : r.st.all (Stp.ok L) = true) (h5 : dupB r.st = false) (h6 : linkedB L r.st = true) : rteErr L r = 0 := by unfold rteErr; rw [if_neg (by simpa using h), if_neg h2, if_neg h3, if_neg (by rw [h4]; decide), if_neg (by rw [h5]; decide), if_neg (by rw [h6]; decide)]
end
structure RteOk (L : Lay) (r : Rte) : Prop where
 lay : layErr L = 0
 len : r.st.length ≤ 24
 ov : r.ov ≤ 2
 ov0 : 0 ≤ r.ov
 two : r.ov + 2 ≤ r.st.length
 ok : r.st.all (Stp.ok L) = true
 dup : dupB r.st = false
 link : linkedB L r.st = true
theorem rte_of {L : Lay} {r : Rte} (h : rteErr L r = 0) : RteOk L r := by
 unfold rteErr at h
 by_cases h1 : layErr L = 0
 ·rw [if_neg (by simpa using h1)] at h
  split at h
  ·cases h
  ·rename_i h2
   split at h
   ·cases h
   ·rename_i h3
    split at h
    ·cases h
    ·rename_i h4
     split at h
     ·cases h
     ·rename_i h5
      split at h
      ·cases h
      ·rename_i h6
       exact ⟨h1, by omega, by omega, by omega, by omega, by simpa using h4, by simpa using h5, by simpa using h6⟩
 ·rw [if_pos h1] at h; cases h
def mkL (n : Nat) (l : List Stp) : List Bool := l.foldl (fun m s => m.set s.sec.toNat true) (List.replicate n false)
theorem mkL_snoc (n : Nat) (l : List Stp) (s : Stp) : mkL n (l ++ [s]) = (mkL n l).set s.sec.toNat true := by simp [mkL]
theorem mkL_len (n : Nat) (l : List Stp) : (mkL n l).length = n := by
 unfold mkL
 have : ∀ (l : List Stp) (m : List Bool), (l.foldl (fun m s => m.set s.sec.toNat true) m).length = m.length := by
  intro l
  induction l with
  | nil => intro m; rfl
  | cons s l ih => intro m; simp [ih]
 rw [this]; simp
theorem mkL_get (n : Nat) (l : List Stp) (k : Nat) (hk : k < n) : (mkL n l).getD k false = l.any fun s => decide (s.sec.toNat = k) := by
 have : ∀ (l : List Stp) (m : List Bool), k < m.length → (l.foldl (fun m s => m.set s.sec.toNat true) m).getD k false = (m.getD k false || l.any fun s => decide (s.sec.toNat = k)) := by
  intro l
  induction l with
  | nil => intro m _; simp
  | cons s l ih =>
   intro m hm
   rw [List.foldl_cons, ih _ (by simpa using hm), List.any_cons]
   by_cases h : s.sec.toNat = k
   ·rw [decide_eq_true h, List.getD_eq_getElem?_getD, h, List.getElem?_set_self hm]
    simp
   ·rw [decide_eq_false h, List.getD_eq_getElem?_getD, List.getElem?_set_ne h, ← List.getD_eq_getElem?_getD]
    simp
 unfold mkL
 rw [this l _ (by simpa using hk)]
 simp [List.getD_eq_getElem?_getD, hk]
theorem mkL_dup {L : Lay} {st : List Stp} (hok : st.all (Stp.ok L) = true) {i : Nat} (hi : i < st.length) : (mkL L.secs.length (st.take i)).getD (st.getD i st0).sec.toNat false = dupAt st i := by
 have hs : ∀ j (h : j < st.length), 0 ≤ st[j].sec ∧ st[j].sec < L.secs.length := fun j h => by
  obtain ⟨a, b, _⟩ := ok_dir (List.all_eq_true.1 hok _ (List.getElem_mem h))
  exact ⟨a, b⟩
 have hg : st.getD i st0 = st[i] := by rw [List.getD_eq_getElem?_getD, List.getElem?_eq_getElem hi]; rfl
 have h1 := hs i hi
 rw [mkL_get _ _ _ (by rw [hg]; omega)]
 unfold dupAt
 rw [hg]
 apply Bool.eq_iff_iff.2
 simp only [List.any_eq_true, decide_eq_true_eq]
 constructor
 ·rintro ⟨x, hx, e⟩
  obtain ⟨j, hj, rfl⟩ := List.mem_iff_getElem.1 (List.mem_of_mem_take hx)
  have := hs j hj
  exact ⟨_, hx, by omega⟩
 ·rintro ⟨x, hx, e⟩
  exact ⟨x, hx, by rw [e]⟩
theorem take_snoc {st : List Stp} {i : Nat} (hi : i < st.length) : st.take (i + 1) = st.take i ++ [st.getD i st0] := by
 rw [List.take_succ_eq_append_getElem hi, List.getD_eq_getElem?_getD, List.getElem?_eq_getElem hi]
 rfl
theorem dup_yes {st : List Stp} {i : Nat} (hi : i < st.length) (h : dupAt st i = true) : dupB st = true := List.any_eq_true.2 ⟨i, List.mem_range.2 hi, h⟩
theorem dup_no {st : List Stp} (h : ∀ j, j < st.length → dupAt st j = false) : dupB st = false := by
 unfold dupB
 rw [Bool.eq_false_iff]
 intro ha
 obtain ⟨i, hi, h1⟩ := List.any_eq_true.1 ha
 rw [h i (List.mem_range.1 hi)] at h1
 cases h1
theorem link_no {L : Lay} {st : List Stp} {i : Nat} (hi : i + 1 < st.length) (h : (linkAt L st i).isSome = false) : linkedB L st = false := by
 unfold linkedB
 rw [Bool.eq_false_iff]
 intro ha
 have := List.all_eq_true.1 ha i (List.mem_range.2 (by omega))
 rw [this] at h; cases h
theorem link_yes {L : Lay} {st : List Stp} (h : ∀ j, j + 1 < st.length → (linkAt L st j).isSome = true) : linkedB L st = true := by
 unfold linkedB
 rw [List.all_eq_true]
 intro i hi
 exact h i (by have := List.mem_range.1 hi; omega)
theorem ptsL_snoc (L : Lay) (st : List Stp) (i : Nat) : ptsL L st (i + 1) = ptsL L st i ++ [((linkAt L st i).map Hop.pt).getD 0] := by
 unfold ptsL
 rw [List.range_succ, List.map_append]
 rfl
theorem ptsL_len (L : Lay) (st : List Stp) (i : Nat) : (ptsL L st i).length = i := by simp [ptsL]
theorem all_at {L : Lay} {st : List Stp} (h : st.all (Stp.ok L) = true) {i : Nat} (hi : i < st.length) : (st.getD i st0).ok L = true := by
 rw [List.getD_eq_getElem?_getD, List.getElem?_eq_getElem hi]
 exact List.all_eq_true.1 h _ (List.getElem_mem hi)
theorem trans_at {L : Lay} (hv : layErr L = 0) {st : List Stp} (h : st.all (Stp.ok L) = true) {i : Nat} (hi : i + 1 < st.length) : transL L (st.getD i st0) (st.getD (i + 1) st0) = (linkAt L st i).map Hop.pt :=
 trans_join hv (ok_dir (all_at h (by omega))).2.2 (ok_dir (all_at h hi)).2.2
abbrev bLay (L : Lay) : Option SB := some (.cells [rStr L.sts, rStr L.pts, rSec L.secs, rLnk L.lnks])
abbrev bRte (st : List Stp) (ov : Int) : Option SB := some (.cells [rStp st, xI ov])
abbrev bBool (l : List Bool) : Option SB := some (.els 1 fBool vBool mBool false l)
theorem drop_at (st : List Stp) (i : Nat) : (st.drop 1).getD i st0 = st.getD (i + 1) st0 := by
 simp [List.getD_eq_getElem?_getD, List.getElem?_drop, Nat.add_comm]
theorem points_ok (L : Lay) (hL : LayFits L) (st : List Stp) (ov : Int) (hl : st.length ≤ 9223372036854775807) (ho : -9223372036854775808 ≤ ov ∧ ov ≤ 9223372036854775807) : OkV Tryz.prog 61 [vLay L, .agg [rStp st, xI ov]] [] (.tup [.c (rInt (if rteErr L ⟨st, ov⟩ = 0 then ptsL L st (st.length - 1) else [])), .c (xI (rteErr L ⟨st, ov⟩))]) [] := by
 have hC := check_okV L hL
 have hl3 := hL.m3
 unfold vLay at hC ⊢
 refine X_fn mixedX Tryz.func61 rfl (by kernel_rfl) (Nat.le_of_ble_eq_true (by kernel_rfl)) (by kernel_rfl) rfl rfl (Nat.le_of_ble_eq_true rfl) rfl rfl ?_
 simp only [sl0, Nat.zero_add, Nat.reduceAdd]
 repeat' (first|with_reducible (first|refine q_and ?_ ?_|exact True.intro|exact TkEq.nil _|refine Red.o (by constructor) ?_|fail)|((with_reducible apply q_call);refine X_pure (hC) rfl ?_)|((with_reducible apply q_CI);intro hbq;(try simp only [bq] at hbq);(try (exfalso;omega)))|refine Rex.o (by (with_reducible constructor);apply Eq.refl) ?_|omega)
 ·rw [rte_1 hbq]; rfl
 ·rename_i a1 a2
  rw [rte_7 a1 (.inl (by simp only; omega))]; rfl
 ·rename_i a1 a2
  rw [rte_7 a1 (.inr hbq)]; rfl
 ·rename_i a1 a2 a3 a4
  rw [rte_4 a1 (by simp only; omega) (.inl hbq)]; rfl
 ·rename_i a1 a2 a3 a4
  rw [rte_4 a1 (by simp only; omega) (.inr hbq)]; rfl
 rename_i a1 a2 a3 a4
 clear hC
 have b2 : ¬ (24 < st.length ∨ 2 < ov) := by omega
 have b3 : ¬ (ov < 0 ∨ (st.length : Int) - ov < 2) := by omega
 have hV := valid_of a1
 have hn3 := hV.n3
 refine W_loopS (fun i : Nat => SS [sC 2 (pB 0), sC 3 (pB 1), sC 40 (rStp st), sI 41 st.length, sI 42 i] [bLay L, bRte st ov]) (fun i => i ≤ st.length ∧ ∀ j, j < i → (st.getD j st0).ok L = true) (fun i => st.length - i) 0 ?_ ⟨by omega, fun j hj => by omega⟩ ?_
 ·
  refine X_weak rfl rfl rfl ?_ ?_ <;> repeat' (first|with_reducible (first|refine Wk.o (by constructor) ?_|refine q_and ?_ ?_|exact True.intro)|refine q_AgS rfl ?_ ?_|exact (rfl : known _ = _)|omega)
 intro i hi
 obtain ⟨hi, hok⟩ := hi
 have hS := isStep_ok L (by omega) (st.getD (i : Int).toNat st0)
 unfold vLay at hS
 repeat' (first|with_reducible (first|refine q_and ?_ ?_|exact True.intro|exact TkEq.nil _|refine Red.o (by constructor) ?_|assumption)|((with_reducible apply q_call);refine X_pure (hS) rfl ?_)|((with_reducible apply q_CI);intro hbq;(try simp only [bq] at hbq);(try (exfalso;omega)))|refine Rex.o (by (with_reducible constructor);apply Eq.refl) ?_|((with_reducible apply q_VOk);exact fun _ => ⟨rfl,rfl⟩)|omega|(dsimp only;omega))
 ·rw [rte_4b (r := ⟨st, ov⟩) a1 b2 b3 (all_no (l := st) (i := i) (by omega) (by simpa using hbq))]; rfl
 ·
  refine LoopK_n (i + 1) ?_ (⟨by omega, upto_succ hok (by simpa using hbq)⟩) (by (try dsimp only); omega)
  refine X_weak rfl rfl rfl ?_ ?_ <;> repeat' (first|with_reducible (first|refine Wk.o (by constructor) ?_|refine q_and ?_ ?_|exact True.intro)|refine q_AgS rfl ?_ ?_|exact (rfl : known _ = _)|omega)
 have hie : i = st.length := by omega
 subst hie
 clear hS
 have b4 : st.all (Stp.ok L) = true := all_yes hok
 clear hok hi hbq
 refine W_loopS (fun i : Nat => SS [sC 2 (pB 0), sC 3 (pB 1), sC 8 (.c (.arr 2 0 L.secs.length L.secs.length)), sC 56 (rStp st), sI 57 st.length, sI 58 i] [bLay L, bRte st ov, bBool (mkL L.secs.length (st.take i))]) (fun i => i ≤ st.length ∧ ∀ j, j < i → dupAt st j = false) (fun i => st.length - i) 0 ?_ ⟨by omega, fun j hj => by omega⟩ ?_
 ·
  refine X_weak rfl rfl rfl ?_ ?_ <;> repeat' (first|with_reducible (first|refine Wk.o (by constructor) ?_|refine q_and ?_ ?_|exact True.intro)|refine q_AgS rfl ?_ ?_|exact (rfl : known _ = _)|omega)
  all_goals rfl
 intro i hi
 obtain ⟨hi, hno⟩ := hi
 have hsec : (i : Int) < st.length → 0 ≤ (st.getD (i : Int).toNat { sec := 0, dir := 0 }).sec ∧ (st.getD (i : Int).toNat { sec := 0, dir := 0 }).sec < L.secs.length := fun h => by
  obtain ⟨x, y, _⟩ := ok_dir (all_at (i := i) b4 (by omega))
  exact ⟨x, y⟩
 have hml := mkL_len L.secs.length (st.take i)
 have hd : i < st.length → _ := fun h => mkL_dup b4 (i := i) h
 repeat' (first|with_reducible (first|refine q_and ?_ ?_|exact True.intro|exact TkEq.nil _|refine Red.o (by constructor) ?_|assumption)|((with_reducible apply q_CI);intro hbq;(try simp only [bq] at hbq);(try (exfalso;omega)))|refine Rex.o (by (with_reducible constructor);apply Eq.refl) ?_|((with_reducible apply q_VOk);exact fun _ => ⟨rfl,rfl⟩)|(intro _;exact rfl)|omega)
 ·rename_i c1
  rw [rte_5 (r := ⟨st, ov⟩) a1 b2 b3 b4 (dup_yes (st := st) (i := i) (by omega) (by rw [← hd (by omega)]; exact hbq))]; rfl
 ·rfl
 ·rename_i c1
  refine LoopK_n (i + 1) ?_ (⟨by omega, upto_succ hno (by rw [← hd (by omega)]; exact hbq)⟩) (by (try dsimp only); omega)
  refine X_weak rfl rfl rfl ?_ ?_ <;> repeat' (first|with_reducible (first|refine Wk.o (by constructor) ?_|refine q_and ?_ ?_|exact True.intro)|refine q_AgS rfl ?_ ?_|exact (rfl : known _ = _)|omega)
  all_goals (rw [take_snoc (by omega), mkL_snoc]; rfl)
 have hie : i = st.length := by omega
 subst hie
 have b5 : dupB st = false := dup_no hno
 clear hno hi hbq hd hsec hml
 refine W_loopS (fun i : Nat => SS [sC 2 (pB 0), sC 3 (pB 1), sC 11 (tInt (ptsL L st i)), sC 74 (rStp (st.drop 1)), sI 75 (st.length - 1 : Nat), sI 76 i] [bLay L, bRte st ov]) (fun i => i ≤ st.length - 1 ∧ ∀ j, j < i → (linkAt L st j).isSome = true) (fun i => st.length - 1 - i) 0 ?_ ⟨by omega, fun j hj => by omega⟩ ?_
 ·
  refine X_weak rfl rfl rfl ?_ ?_ <;> repeat' (first|with_reducible (first|refine Wk.o (by constructor) ?_|refine q_and ?_ ?_|exact True.intro)|refine q_AgS rfl ?_ ?_|exact CLe.nil_tipS|exact (rfl : known _ = _)|omega)
  all_goals first
   | rfl
   | (rw [List.length_drop]; rfl)
 intro i hi
 obtain ⟨hi, hno⟩ := hi
 have hT := transition_ok L hV (st.getD (i : Int).toNat st0) ((st.drop 1).getD (i : Int).toNat st0)
 have hl1 : (st.drop 1).length = st.length - 1 := List.length_drop
 have hl2 := ptsL_len L st i
 unfold vLay at hT
 have e : i + 1 < st.length → transL L (st.getD (i : Int).toNat st0) ((st.drop 1).getD (i : Int).toNat st0) = (linkAt L st i).map Hop.pt := fun h => by
  rw [show (st.drop 1).getD (i : Int).toNat st0 = st.getD (i + 1) st0 from drop_at st i]
  exact trans_at a1 b4 h
 generalize transL L (st.getD (i : Int).toNat st0) ((st.drop 1).getD (i : Int).toNat st0) = x at hT e
 repeat' (first|with_reducible (first|refine q_and ?_ ?_|exact True.intro|exact TkEq.nil _|refine Red.o (by constructor) ?_|fail)|((with_reducible apply q_call);refine X_pure (hT) rfl ?_)|((with_reducible apply q_CI);intro hbq;(try simp only [bq] at hbq);(try (exfalso;omega)))|refine Rex.o (by (with_reducible constructor);apply Eq.refl) ?_|((with_reducible apply q_VOk);exact fun _ => ⟨rfl,rfl⟩)|((with_reducible apply q_CRB);kernel_rfl)|((with_reducible apply q_eqN);rfl)|omega)
 ·rename_i c1
  have e := e (by omega)
  rw [rte_11 (r := ⟨st, ov⟩) a1 b2 b3 b4 b5 (link_no (i := i) (by simp only; omega) (by rw [e, Option.isSome_map] at hbq; exact hbq))]; rfl
 ·rename_i c1
  have e := e (by omega)
  refine LoopK_n (i + 1) ?_ (⟨by omega, upto_succ hno (by rw [e, Option.isSome_map] at hbq; exact hbq)⟩) (by (try dsimp only); omega)
  refine X_weak rfl rfl rfl ?_ ?_ <;> repeat' (first|with_reducible (first|refine Wk.o (by constructor) ?_|refine q_and ?_ ?_|exact True.intro)|refine q_AgS rfl ?_ ?_|exact (rfl : known _ = _)|omega)
  all_goals (rw [ptsL_snoc, ← e]; simp [fInt, fI])
 ·have hie : i = st.length - 1 := by omega
  subst hie
  rw [rte_0 (r := ⟨st, ov⟩) a1 b2 b3 b4 b5 (link_yes fun j hj => hno j (by simp only at hj; omega)), if_pos rfl]
  rfl
theorem rteCheck_ok (L : Lay) (hL : LayFits L) (st : List Stp) (ov : Int) (hl : st.length ≤ 9223372036854775807) (ho : -9223372036854775808 ≤ ov ∧ ov ≤ 9223372036854775807) : OkV Tryz.prog 41 [vLay L, .agg [rStp st, xI ov]] [] (vI (rteErr L ⟨st, ov⟩)) [] := by
 have hP := points_ok L hL st ov hl ho
 unfold vLay at hP ⊢
 refine X_fn mixedX Tryz.func41 rfl (by kernel_rfl) (Nat.le_of_ble_eq_true (by kernel_rfl)) (by kernel_rfl) rfl rfl (Nat.le_of_ble_eq_true rfl) rfl rfl ?_
 simp only [sl0, Nat.zero_add, Nat.reduceAdd]
 repeat' (first|with_reducible (first|refine q_and ?_ ?_|exact True.intro|exact TkEq.nil _|refine Red.o (by constructor) ?_|fail)|((with_reducible apply q_call);refine X_pure (hP) rfl ?_)|refine Rex.o (by (with_reducible constructor);apply Eq.refl) ?_|fail)
 repeat' (first|with_reducible (first|refine Wk.o (by constructor) ?_|exact True.intro)|refine VEq.c ?_)
open Go.RowKit
abbrev dW : Wrd := ⟨⟨#[]⟩, 0, 0⟩
theorem flat_fWrd (l : List PW) : (l.map PW.w).flatMap fWrd = (l.flatMap wF).map FVal.v := by
 induction l with
 | nil => rfl
 | cons a l ih => simp only [List.map_cons, List.flatMap_cons, List.map_append, ih]; rfl
theorem ok_words {P : Program} {f : FuncId} {args : List AVal} {t : TypeId} (fn : Func) (hf : P.funcs[f]? = some fn) (hb : fn.body.isSome = true) (hn : (fn.name == "runtime.NumGoroutine") = false) (ws : List PW)
  (h : ∀ (w : World) (κ : Nat → BK) (ρ : Nat → Nat) (vals : Array Value), vals.size = args.length → (∀ i (h : i < args.length) (h' : i < vals.size) l, RepA w κ ρ l args[i] vals[i]) → Calls P f vals w fun e w' => ∃ A c, e = .returned (.tuple #[.slice A ws.length c, .int .i64 0]) ∧ OwnF w' w.heap.size t 3 wF (.slice A ws.length c) ws ∧ Below w.heap.size w w') : Ok P f args [] (.tup [.c (.f (.row ((ws.map PW.w).flatMap fWrd) (ws.map PW.w).length)), .c (.f (.v (.int .i64 0)))]) [] := by
 refine ⟨⟨fn, hf, hb, hn⟩, rfl, rfl, Nat.le_refl _, fun w κ ρ vals hs hr hok hH => ?_⟩
 refine (h w κ ρ vals hs hr).mono ?_
 rintro e w' ⟨A, c, rfl, hO, hB⟩
 refine ⟨_, fun g => if g < w.heap.size then κ g else .lock none, ρ, rfl, fun l => ?_, ⟨fun b cs h => by simp at h, fun b cs h => by simp at h⟩, ⟨hB.os, hB.tape, hB.output, hB.size, fun g n hg hl => ⟨by rw [if_pos hg]; exact hl, hB.block g hg⟩, ⟨hB.size, fun g o x hg _ hx => ?_, fun g n hg hf => by rw [if_pos hg]; exact hf⟩⟩, fun _ _ => rfl⟩
 ·refine ⟨_, rfl, rfl, fun i hi hi' => ?_⟩
  match i, hi with
  | 0, _ =>
   refine ⟨rfl, ?_⟩
   show RepF _ _ (.row ((ws.map PW.w).flatMap fWrd) (ws.map PW.w).length) (.slice A ws.length c)
   rw [flat_fWrd, List.length_map]
   obtain ⟨h1, h2⟩ := hO
   rcases h2 with ⟨h0, h00⟩ | ⟨g, cap, cur, hv, hg, hh, hle, hcap, hsz, ht⟩
   ·injection h0 with e1 e2 e3
    have : ws = [] := List.eq_nil_of_length_eq_zero h00
    subst this
    rw [e1, show c = 0 from e3]
    exact .nil0
   ·injection hv with e1 e2 e3
    subst e1; subst e3
    refine repF_rowI ⟨g, 0, c, rfl, hle, fun j hj => ?_, fun _ => ⟨?_, ?_⟩⟩
    ·rw [List.length_map] at hj
     refine ⟨(ws.flatMap wF)[j], ?_, ?_⟩
     ·have hu : (ws.flatMap wF)[j]? = some (ws.flatMap wF)[j] := List.getElem?_eq_getElem hj
      conv at hu => lhs; rw [← ht]
      rw [List.getElem?_take] at hu
      split at hu
      ·simp only [World.cell?, hh, Nat.zero_add]
       simpa using hu
      ·cases hu
     ·rw [List.getElem_map]
      refine .v _ ?_
      have hm : (ws.flatMap wF)[j] ∈ ws.flatMap wF := List.getElem_mem hj
      obtain ⟨p, _, hp⟩ := List.mem_flatMap.1 hm
      revert hp
      generalize (ws.flatMap wF)[j] = u
      intro hp
      simp only [wF, List.mem_cons, List.not_mem_nil, or_false] at hp
      rcases hp with rfl | rfl | rfl <;> rfl
    ·exact lt_of_heap hh
    ·have hnl : ¬ g < w.heap.size := by omega
     show BK.fits (if g < w.heap.size then κ g else .lock none) _
     rw [if_neg hnl]; trivial
  | 1, _ => exact ⟨rfl, .v _ rfl⟩
 ·rw [World.cell?_of_block (w := w) (a := ⟨g, o, none⟩) (hB.block g hg)]
  exact hx
theorem one_ok (l : List UInt8) (ln : Int) (hok : okLine l = true) (hs : l.length ≤ 65536) (hw : (wOne l ln).length ≤ 64) : OkV Tryz.prog 95 [vS (bL l), vI ln] [] (.tup [.c (rWrd ((wOne l ln).map PW.w)), .c (xI 0)]) [] := by
 refine ok_words (t := 174) _ Tryz.func95 (by kernel_rfl) (by kernel_rfl) (wOne l ln) fun w κ ρ vals hs2 hr => ?_
 have hs2 : vals.size = 2 := hs2
 have h0 := (repF_v.1 (hr 0 (by simp) (by omega) (.slot 0))).1
 have h1 := (repF_v.1 (hr 1 (by simp) (by omega) (.slot 0))).1
 have hv : vals = #[.string (bL l), .int .i64 ln] := by
  apply Array.ext
  ·simpa using hs2
  ·intro i hi hi'
   match i, hi' with
   | 0, _ => exact h0
   | 1, _ => exact h1
 rw [hv]
 exact one_any (bL l) ln w hok hs hw
theorem u8_sub (b : Nat) (h1 : 48 ≤ b) (h2 : b ≤ 57) : IntKind.u8.wrap ((b : Int) - 48) = (b : Int) - 48 := by
 simp only [IntKind.wrap]
 simp [IntKind.bits, IntKind.signed]
 omega
theorem dig_ok (c : Nat) (hc : c < 256) : OkV Tryz.prog 121 [.c (.c (.f (.v (.int .u8 c))))] [] (vB (decide ((48 : Int) ≤ c) && decide ((c : Int) ≤ 57))) [] := by
 refine X_fn mixedX Tryz.func121 rfl (by kernel_rfl) (Nat.le_of_ble_eq_true (by kernel_rfl)) (by kernel_rfl) rfl rfl (Nat.le_of_ble_eq_true rfl) rfl rfl ?_
 simp only [sl0, Nat.zero_add, Nat.reduceAdd]
 repeat' (first|with_reducible (first|refine q_and ?_ ?_|exact True.intro|exact TkEq.nil _|assumption)|refine Rex.o (by (with_reducible constructor);apply Eq.refl) ?_|(intro (hgq : (_ : Bool) = true);(try simp only [bq] at hgq))|((with_reducible apply q_bt);simp only [bq]))
 repeat' (first|with_reducible (first|refine Wk.o (by constructor) ?_|exact True.intro)|refine VEq.c ?_)
def numU (l : List UInt8) (i : Nat) : Int := numL (l.take i)
theorem numU_succ (l : List UInt8) (i : Nat) (h : i < l.length) : numU l (i + 1) = 10 * numU l i + (((l.getD i 0).toNat : Int) - 48) := by
 unfold numU numL
 rw [List.take_succ_eq_append_getElem h, List.foldl_append, List.getD_eq_getElem?_getD, List.getElem?_eq_getElem h]
 rfl
theorem numU_rng (l : List UInt8) (hd : l.all digit = true) : ∀ i, i ≤ l.length → 0 ≤ numU l i ∧ numU l i + 1 ≤ 10 ^ i
 | 0, _ => ⟨by show (0 : Int) ≤ 0; omega, by show (0 : Int) + 1 ≤ 1; omega⟩
 | i + 1, h => by
  have ih := numU_rng l hd i (by omega)
  rw [numU_succ l i (by omega)]
  have hg : digit (l.getD i 0) = true := by
   rw [List.getD_eq_getElem?_getD, List.getElem?_eq_getElem (by omega)]
   exact List.all_eq_true.1 hd _ (List.getElem_mem _)
  unfold digit at hg
  simp only [Bool.and_eq_true, decide_eq_true_eq] at hg
  have e : (10 : Int) ^ (i + 1) = 10 * 10 ^ i := by rw [Int.pow_succ]; omega
  rw [e]
  omega
theorem bL_get (l : List UInt8) (i : Nat) : (bL l).data.getD i 0 = l.getD i 0 := by
 simp [bL, Array.getD_eq_getD_getElem?, List.getD_eq_getElem?_getD]
theorem number_ok (l : List UInt8) (h : okNum l = true) : OkV Tryz.prog 111 [vS (bL l)] [] (.tup [.c (xI (numL l)), .c (xB true)]) [] := by
 unfold okNum at h
 simp only [Bool.and_eq_true, decide_eq_true_eq, Bool.or_eq_true] at h
 obtain ⟨⟨⟨h1, h2⟩, h3⟩, h4⟩ := h
 have hz : (bL l).size = l.length := rfl
 have hdig : ∀ i, i < l.length → 48 ≤ ((bL l).data.getD i 0).toNat ∧ ((bL l).data.getD i 0).toNat ≤ 57 := fun i hi => by
  rw [bL_get]
  have hg : digit (l.getD i 0) = true := by
   rw [List.getD_eq_getElem?_getD, List.getElem?_eq_getElem hi]
   exact List.all_eq_true.1 h3 _ (List.getElem_mem _)
  unfold digit at hg
  simpa using hg
 have hd0 : 48 ≤ ((bL l).data.getD (0 : Int).toNat 0).toNat ∧ ((bL l).data.getD (0 : Int).toNat 0).toNat ≤ 57 := hdig 0 (by omega)
 have hz0 : l.length = 1 ∨ ((bL l).data.getD (0 : Int).toNat 0).toNat ≠ 48 := by
  rcases h4 with h | h
  ·exact .inl h
  ·right
   intro e
   have e2 : (bL l).data.getD (0 : Int).toNat 0 = l.getD 0 0 := bL_get l 0
   rw [e2] at e
   have : l.getD 0 0 = 48 := UInt8.toNat_inj.1 e
   rw [this] at h
   simp at h
 have hrg := numU_rng l h3
 have hpw : ∀ i, i ≤ 12 → (10 : Int) ^ i ≤ 10 ^ 12 := fun i hi => by
  have := Nat.pow_le_pow_right (n := 10) (by omega) hi
  exact_mod_cast this
 have hmx : (10 : Int) ^ 12 = 1000000000000 := by rfl
 refine X_fn mixedX Tryz.func111 rfl (by kernel_rfl) (Nat.le_of_ble_eq_true (by kernel_rfl)) (by kernel_rfl) rfl rfl (Nat.le_of_ble_eq_true rfl) rfl rfl ?_
 simp only [sl0, Nat.zero_add, Nat.reduceAdd]
 repeat' (first|with_reducible (first|refine q_and ?_ ?_|exact True.intro|refine Red.o (by constructor) ?_|assumption)|with_reducible (first|refine W_seq ?_|refine W_block ?_)|((with_reducible apply q_cond);refine X_cond rfl ?_ ?_;all_goals (intro hbq;(try simp only [bq] at hbq);(try (exfalso;omega))))|refine Rex.o (by (with_reducible constructor);apply Eq.refl) ?_|(intro (hgq : (_ : Bool) = true);(try simp only [bq] at hgq))|(intro (hgq : (_ : Bool) = false);(try simp only [bq] at hgq))|((with_reducible apply q_bt);simp only [bq])|(simp only [hgq,bq];done)|omega)
 refine W_loopS (fun i : Nat => SS [sS 4 (bL l), sI 5 1, sI 6 (numU l i), sI 7 i] []) (fun i => i ≤ l.length) (fun i => l.length - i) 0 ?_ (by omega) ?_
 ·
  refine X_weak rfl rfl rfl ?_ ?_ <;> repeat' (first|with_reducible (first|refine Wk.o (by constructor) ?_|refine q_and ?_ ?_|exact True.intro)|refine q_AgS rfl ?_ ?_|exact (rfl : known _ = _)|omega)
  all_goals rfl
 intro i hi
 have hr1 := hrg i hi
 have hr2 := hpw i (by omega)
 have hD := dig_ok ((bL l).data.getD (i : Int).toNat 0).toNat (UInt8.toNat_lt _)
 by_cases hil : i < l.length
 ·have hdi : 48 ≤ ((bL l).data.getD (i : Int).toNat 0).toNat ∧ ((bL l).data.getD (i : Int).toNat 0).toNat ≤ 57 := hdig i hil
  have hu := u8_sub _ hdi.1 hdi.2
  have hs := numU_succ l i hil
  have e2 : (bL l).data.getD (i : Int).toNat 0 = l.getD i 0 := bL_get l i
  repeat' (first|with_reducible (first|refine q_and ?_ ?_|exact True.intro|refine Red.o (by constructor) ?_|assumption)|((with_reducible apply q_call);refine X_pure (hD) rfl ?_)|with_reducible (first|refine W_seq ?_|refine W_block ?_)|((with_reducible apply q_cond);refine X_cond rfl ?_ ?_;all_goals (intro hbq;(try simp only [bq] at hbq);(try (exfalso;omega))))|refine Rex.o (by (with_reducible constructor);apply Eq.refl) ?_|omega)
  ·
   refine LoopK_n (i + 1) ?_ ((by omega)) (by (try dsimp only); omega)
   refine X_weak rfl rfl rfl ?_ ?_ <;> repeat' (first|with_reducible (first|refine Wk.o (by constructor) ?_|refine q_and ?_ ?_|exact True.intro)|refine q_AgS rfl ?_ ?_|exact (rfl : known _ = _)|omega)
   ·rw [hs, hu, e2]
 ·have hie : i = l.length := by omega
  subst hie
  have e1 : numU l l.length = numL l := by unfold numU; rw [List.take_length]
  repeat' (first|with_reducible (first|refine q_and ?_ ?_|exact True.intro|exact TkEq.nil _|refine Red.o (by constructor) ?_|fail)|with_reducible (refine W_seq ?_)|((with_reducible apply q_cond);refine X_cond rfl ?_ ?_;all_goals (intro hbq;(try simp only [bq] at hbq);(try (exfalso;omega))))|refine Rex.o (by (with_reducible constructor);apply Eq.refl) ?_|omega)
  ·rw [Int.one_mul, e1]
   repeat' (first|with_reducible (first|refine Wk.o (by constructor) ?_|refine q_and ?_ ?_|exact True.intro)|refine VEq.tup ?_)
theorem bL_toList (s : List UInt8) : (bL s).toList = s := by rw [ByteArray.toList_eq]; simp [bL]
theorem sEq {a : ByteArray} {s : List UInt8} (h : (a.toList == (bL s).toList) = true) : a.data.toList = s := by
 rw [bL_toList, ByteArray.toList_eq] at h
 simpa using h
theorem sNe {a : ByteArray} {s : List UInt8} (h : (a.toList == (bL s).toList) = false) : a.data.toList ≠ s := by
 rw [bL_toList, ByteArray.toList_eq] at h
 simpa using h
theorem letterEnd_ok (s : List UInt8) : OkV Tryz.prog 113 [vS (bL s)] [] (vI (endL s)) [] := by
 unfold endL
 have e : (bL s).data.toList = s := by simp [bL]
 refine X_fn mixedX Tryz.func113 rfl (by kernel_rfl) (Nat.le_of_ble_eq_true (by kernel_rfl)) (by kernel_rfl) rfl rfl (Nat.le_of_ble_eq_true rfl) rfl rfl ?_
 simp only [sl0, Nat.zero_add, Nat.reduceAdd]
 repeat' (first|with_reducible (first|refine q_and ?_ ?_|exact True.intro|exact TkEq.nil _)|((with_reducible apply q_CI);intro hbq;(try simp only [bq] at hbq);(try (exfalso;omega)))|refine Rex.o (by (with_reducible constructor);apply Eq.refl) ?_|fail)
 ·have h : (bL s).data.toList = [65] := sEq hbq
  rw [e] at h
  rw [if_pos h]
  repeat' (first|with_reducible (first|refine Wk.o (by constructor) ?_|exact True.intro)|refine VEq.c ?_)
 ·rename_i hbq2
  have h : (bL s).data.toList ≠ [65] := sNe hbq2
  have h2 : (bL s).data.toList = [66] := sEq hbq
  rw [e] at h h2
  rw [if_neg h, if_pos h2]
  repeat' (first|with_reducible (first|refine Wk.o (by constructor) ?_|exact True.intro)|refine VEq.c ?_)
 ·rename_i hbq2
  have h : (bL s).data.toList ≠ [65] := sNe hbq2
  have h2 : (bL s).data.toList ≠ [66] := sNe hbq
  rw [e] at h h2
  rw [if_neg h, if_neg h2]
  repeat' (first|with_reducible (first|refine Wk.o (by constructor) ?_|exact True.intro)|refine VEq.c ?_)
theorem placeL_at : ∀ {l : List ByteArray} {s : List UInt8} {i : Nat}, i < l.length → (l.getD i ⟨#[]⟩).data.toList = s → (∀ j, j < i → (l.getD j ⟨#[]⟩).data.toList ≠ s) → placeL l s = i
 | x :: l, s, 0, _, h, _ => by unfold placeL; rw [if_pos (show x.data.toList = s from h)]; rfl
 | x :: l, s, i + 1, hi, h, hn => by
  have h0 : ¬ x.data.toList = s := hn 0 (by omega)
  have ih := placeL_at (l := l) (s := s) (i := i) (by simpa using hi) h (fun j hj => hn (j + 1) (by omega))
  unfold placeL
  rw [if_neg h0, ih]
  simp only
  rw [if_neg (by omega)]; rfl
theorem placeL_no : ∀ {l : List ByteArray} {s : List UInt8}, (∀ j, j < l.length → (l.getD j ⟨#[]⟩).data.toList ≠ s) → placeL l s = -1
 | [], s, _ => rfl
 | x :: l, s, hn => by
  have h0 : ¬ x.data.toList = s := hn 0 (by simp)
  have ih := placeL_no (l := l) (s := s) (fun j hj => hn (j + 1) (by simpa using hj))
  unfold placeL
  rw [if_neg h0, ih]
  rfl
theorem place_ok (l : List ByteArray) (s : List UInt8) (hl : l.length ≤ 1000) : OkV Tryz.prog 112 [.c (rStr l), vS (bL s)] [] (vI (placeL l s)) [] := by
 refine X_fn mixedX Tryz.func112 rfl (by kernel_rfl) (Nat.le_of_ble_eq_true (by kernel_rfl)) (by kernel_rfl) rfl rfl (Nat.le_of_ble_eq_true rfl) rfl rfl ?_
 simp only [sl0, Nat.zero_add, Nat.reduceAdd]
 repeat' (first|with_reducible (first|refine q_and ?_ ?_|exact True.intro)|refine Rex.o (by (with_reducible constructor);apply Eq.refl) ?_|fail)
 refine W_loopS (fun i : Nat => SS [sC 0 (rStr l), sS 1 (bL s), sI 5 i] []) (fun i => i ≤ l.length ∧ ∀ j, j < i → (l.getD j ⟨#[]⟩).data.toList ≠ s) (fun i => l.length - i) 0 ?_ ⟨by omega, fun j hj => by omega⟩ ?_
 ·
  refine X_weak rfl rfl rfl ?_ ?_ <;> repeat' (first|with_reducible (first|refine Wk.o (by constructor) ?_|refine q_and ?_ ?_|exact True.intro)|refine q_AgS rfl ?_ ?_|exact (rfl : known _ = _)|omega)
 intro i hi
 obtain ⟨hi, hno⟩ := hi
 repeat' (first|with_reducible (first|refine q_and ?_ ?_|exact True.intro|exact TkEq.nil _|refine Red.o (by constructor) ?_|assumption)|((with_reducible apply q_CI);intro hbq;(try simp only [bq] at hbq);(try (exfalso;omega)))|refine Rex.o (by (with_reducible constructor);apply Eq.refl) ?_|((with_reducible apply q_VOk);exact fun _ => ⟨rfl,rfl⟩)|omega)
 ·rw [placeL_at (l := l) (s := s) (i := i) (by omega) (sEq hbq) hno]
  repeat' (first|with_reducible (first|refine Wk.o (by constructor) ?_|exact True.intro)|refine VEq.c ?_)
 ·
  refine LoopK_n (i + 1) ?_ (⟨by omega, upto_succ hno (sNe hbq)⟩) (by (try dsimp only); omega)
  refine X_weak rfl rfl rfl ?_ ?_ <;> repeat' (first|with_reducible (first|refine Wk.o (by constructor) ?_|refine q_and ?_ ?_|exact True.intro)|refine q_AgS rfl ?_ ?_|exact (rfl : known _ = _)|omega)
 ·rw [placeL_no (l := l) (s := s) (fun j hj => hno j (by omega))]
  repeat' (first|with_reducible (first|refine Wk.o (by constructor) ?_|exact True.intro)|refine VEq.c ?_)
abbrev bLayT (L : Lay) : Option SB := some (.cells [uStr L.sts, uStr L.pts, uSec L.secs, uLnk L.lnks])
theorem declSec_ok (L : Lay) (w : List Wrd) (a b c d : List UInt8) (hl : w.length = 5) (ha : (w.getD (1 : Int).toNat dW).tx = bL a) (hb : (w.getD (2 : Int).toNat dW).tx = bL b) (hc : (w.getD (3 : Int).toNat dW).tx = bL c) (hd : (w.getD (4 : Int).toNat dW).tx = bL d) (h1 : okNum b = true) (h2 : okNum c = true) (h3 : okNum d = true) (hL : L.secs.length ≤ 1000) :
  OkV Tryz.prog 96 [.c (pB 0), .c (rWrd w)] [bLayT L] (vI 0) [bLayT { L with secs := L.secs ++ [⟨bL a, numL b, numL c, numL d, -1⟩] }] := by
 have n1 := number_ok b h1
 have n2 := number_ok c h2
 have n3 := number_ok d h3
 rw [← hb] at n1
 rw [← hc] at n2
 rw [← hd] at n3
 refine X_fn mixedX Tryz.func96 rfl (by kernel_rfl) (Nat.le_of_ble_eq_true (by kernel_rfl)) (by kernel_rfl) rfl rfl (Nat.le_of_ble_eq_true rfl) rfl rfl ?_
 simp only [sl0, Nat.zero_add, Nat.reduceAdd]
 repeat' (first|with_reducible (first|refine q_and ?_ ?_|exact True.intro|refine Red.o (by constructor) ?_|assumption)|((with_reducible apply q_call);first|refine X_pure (n1) rfl ?_|refine X_pure (n2) rfl ?_|refine X_pure (n3) rfl ?_)|with_reducible (refine W_seq ?_)|((with_reducible apply q_cond);refine X_cond rfl ?_ ?_;all_goals (intro hbq;(try simp only [bq] at hbq);(try (exfalso;omega))))|refine Rex.o (by (with_reducible constructor);apply Eq.refl) ?_|(intro (hgq : (_ : Bool) = true);(try simp only [bq] at hgq))|(intro (hgq : (_ : Bool) = false);(try simp only [bq] at hgq))|((with_reducible apply q_VOk);exact fun _ => ⟨rfl,rfl⟩)|((with_reducible apply q_CRB);kernel_rfl)|((with_reducible apply q_bt);simp only [bq])|((with_reducible apply q_eqN);rfl)|((with_reducible apply q_FE);exact rfl)|omega)
 ·rfl
 ·rw [ha]
  repeat' (first|with_reducible (first|refine Wk.o (by constructor) ?_|refine q_and ?_ ?_|exact True.intro)|fail)
theorem declSecAt_ok (L : Lay) (w : List Wrd) (a b c d e f : List UInt8) (hl : w.length = 7) (ha : (w.getD (1 : Int).toNat dW).tx = bL a) (hb : (w.getD (2 : Int).toNat dW).tx = bL b) (hc : (w.getD (3 : Int).toNat dW).tx = bL c) (hd : (w.getD (4 : Int).toNat dW).tx = bL d) (he : (w.getD (5 : Int).toNat dW).tx = bL [97, 116]) (hf : (w.getD (6 : Int).toNat dW).tx = bL f) (h1 : okNum b = true) (h2 : okNum c = true) (h3 : okNum d = true) (hp : 0 ≤ placeL L.sts f) (hL : L.secs.length ≤ 1000) (hS : L.sts.length ≤ 1000) :
  OkV Tryz.prog 96 [.c (pB 0), .c (rWrd w)] [bLayT L] (vI 0) [bLayT { L with secs := L.secs ++ [⟨bL a, numL b, numL c, numL d, placeL L.sts f⟩] }] := by
 have n1 := number_ok b h1
 have n2 := number_ok c h2
 have n3 := number_ok d h3
 have n4 := place_ok L.sts f hS
 rw [← hb] at n1
 rw [← hc] at n2
 rw [← hd] at n3
 rw [← hf] at n4
 refine X_fn mixedX Tryz.func96 rfl (by kernel_rfl) (Nat.le_of_ble_eq_true (by kernel_rfl)) (by kernel_rfl) rfl rfl (Nat.le_of_ble_eq_true rfl) rfl rfl ?_
 simp only [sl0, Nat.zero_add, Nat.reduceAdd]
 repeat' (first|with_reducible (first|refine q_and ?_ ?_|exact True.intro|refine Red.o (by constructor) ?_|assumption)|((with_reducible apply q_call);first|refine X_pure (n1) rfl ?_|refine X_pure (n2) rfl ?_|refine X_pure (n3) rfl ?_|refine X_pure (n4) rfl ?_)|with_reducible (refine W_seq ?_)|((with_reducible apply q_cond);refine X_cond rfl ?_ ?_;all_goals (intro hbq;(try simp only [bq] at hbq);(try (exfalso;omega))))|refine Rex.o (by (with_reducible constructor);apply Eq.refl) ?_|(intro (hgq : (_ : Bool) = true);(try simp only [bq] at hgq))|(intro (hgq : (_ : Bool) = false);(try simp only [bq] at hgq))|((with_reducible apply q_VOk);exact fun _ => ⟨rfl,rfl⟩)|((with_reducible apply q_CRB);kernel_rfl)|((with_reducible apply q_bt);simp only [bq])|((with_reducible apply q_eqN);rfl)|((with_reducible apply q_FE);exact rfl)|omega)
 ·exact absurd (show (w.getD (5 : Int).toNat dW).tx.data.toList = [97, 116] by rw [he]; simp [bL]) (sNe (s := [97, 116]) hbq.2)
 ·exact absurd (show (w.getD (5 : Int).toNat dW).tx.data.toList = [97, 116] by rw [he]; simp [bL]) (sNe (s := [97, 116]) hbq.2)
 ·rfl
 ·rw [ha]
  repeat' (first|with_reducible (first|refine Wk.o (by constructor) ?_|refine q_and ?_ ?_|exact True.intro)|fail)
theorem declLnk_ok (L : Lay) (w : List Wrd) (a b c d : List UInt8) (hl : w.length = 5) (ha : (w.getD (1 : Int).toNat dW).tx = bL a) (hb : (w.getD (2 : Int).toNat dW).tx = bL b) (hc : (w.getD (3 : Int).toNat dW).tx = bL c) (hd : (w.getD (4 : Int).toNat dW).tx = bL d) (h1 : 0 ≤ endL b) (h2 : 0 ≤ endL d) (h3 : 0 ≤ placeL (L.secs.map Sec.nm) a) (h4 : 0 ≤ placeL (L.secs.map Sec.nm) c) (hL : L.secs.length ≤ 1000) (hL2 : L.lnks.length ≤ 1000) :
  OkV Tryz.prog 97 [.c (pB 0), .c (rWrd w)] [bLayT L] (vI 0) [bLayT { L with lnks := L.lnks ++ [⟨placeL (L.secs.map Sec.nm) a, endL b, placeL (L.secs.map Sec.nm) c, endL d, -1, 0⟩] }] := by
 have n1 := letterEnd_ok b
 have n2 := letterEnd_ok d
 have n3 := secNames_ok L hL
 have n4 := place_ok (L.secs.map Sec.nm) a (by simpa using hL)
 have n5 := place_ok (L.secs.map Sec.nm) c (by simpa using hL)
 rw [← hb] at n1
 rw [← hd] at n2
 rw [← ha] at n4
 rw [← hc] at n5
 unfold vLay at n3
 refine X_fn mixedX Tryz.func97 rfl (by kernel_rfl) (Nat.le_of_ble_eq_true (by kernel_rfl)) (by kernel_rfl) rfl rfl (Nat.le_of_ble_eq_true rfl) rfl rfl ?_
 simp only [sl0, Nat.zero_add, Nat.reduceAdd]
 repeat' (first|with_reducible (first|refine q_and ?_ ?_|exact True.intro|refine Red.o (by constructor) ?_|assumption)|((with_reducible apply q_call);first|refine X_pure (n1) rfl ?_|refine X_pure (n2) rfl ?_|refine X_pure (n3) rfl ?_|refine X_pure (n4) rfl ?_|refine X_pure (n5) rfl ?_)|with_reducible (refine W_seq ?_)|((with_reducible apply q_cond);refine X_cond rfl ?_ ?_;all_goals (intro hbq;(try simp only [bq] at hbq);(try (exfalso;omega))))|refine Rex.o (by (with_reducible constructor);apply Eq.refl) ?_|(intro (hgq : (_ : Bool) = true);(try simp only [bq] at hgq))|(intro (hgq : (_ : Bool) = false);(try simp only [bq] at hgq))|((with_reducible apply q_VOk);exact fun _ => ⟨rfl,rfl⟩)|((with_reducible apply q_CRB);kernel_rfl)|((with_reducible apply q_bt);simp only [bq])|((with_reducible apply q_eqN);rfl)|((with_reducible apply q_FE);exact rfl)|(simp only [hgq,bq];done)|omega)
 ·rfl
 ·
  repeat' (first|with_reducible (first|refine Wk.o (by constructor) ?_|refine q_and ?_ ?_|exact True.intro)|fail)
theorem wNe {w : List Wrd} {i : Nat} {a b : List UInt8} (h : (w.getD i dW).tx = bL a) (hab : a ≠ b) : ((w.getD i dW).tx.toList == (bL b).toList) = false := by
 rw [h, bL_toList, bL_toList]
 simpa using hab
theorem wEq {w : List Wrd} {i : Nat} {a : List UInt8} (h : (w.getD i dW).tx = bL a) : ((w.getD i dW).tx.toList == (bL a).toList) = true := by
 rw [h]; simp
theorem declare_ok (L L' : Lay) (ws : List PW) (h : declL L ws = some L') (hL : L.secs.length ≤ 1000) (hL2 : L.lnks.length ≤ 1000) (hS : L.sts.length ≤ 1000) :
  OkV Tryz.prog 77 [.c (pB 0), .c (rWrd (ws.map PW.w))] [bLayT L] (vI 0) [bLayT L'] := by
 have hg : ∀ i, i < ws.length → ((ws.map PW.w).getD i dW).tx = bL ((ws.map PW.tx).getD i []) := fun i hi => by
  simp [List.getD_eq_getElem?_getD, List.getElem?_map, List.getElem?_eq_getElem hi, PW.w]
 have hwl : (ws.map PW.w).length = ws.length := by simp
 have htl : (ws.map PW.tx).length = ws.length := by simp
 unfold declL at h
 generalize ws.map PW.w = w at *
 generalize ws.map PW.tx = tx at *
 match tx, h with
 | [k, a], h =>
  have hn : ws.length = 2 := by rw [← htl]; rfl
  have hw : w.length = 2 := by rw [hwl, hn]
  have h0 : (w.getD (0 : Int).toNat dW).tx = bL k := hg 0 (by omega)
  have h1 : (w.getD (1 : Int).toNat dW).tx = bL a := hg 1 (by omega)
  simp only at h
  split at h
  ·rename_i hk
   injection h with h; subst h
   rw [hk] at h0
   have q0 : ((w.getD (0 : Int).toNat { tx := { data := #[] }, ln := 0, co := 0 }).tx.toList == ByteArray.toList ⟨#[115, 116, 97, 116, 105, 111, 110]⟩) = true := wEq h0
   refine X_fn mixedX Tryz.func77 rfl (by kernel_rfl) (Nat.le_of_ble_eq_true (by kernel_rfl)) (by kernel_rfl) rfl rfl (Nat.le_of_ble_eq_true rfl) rfl rfl ?_
   simp only [sl0, Nat.zero_add, Nat.reduceAdd]
   repeat' (first|with_reducible (first|refine q_and ?_ ?_|exact True.intro|refine Red.o (by constructor) ?_|assumption)|((with_reducible apply q_cond);refine X_cond rfl ?_ ?_;all_goals (intro hbq;(try simp only [bq,and_true,true_and,and_false,false_and,or_true,true_or,or_false,false_or,not_true_eq_false,not_false_eq_true,Bool.true_eq_false,Bool.false_eq_true,q0] at hbq);(try (exfalso;omega))))|with_reducible (first|refine W_seq ?_|refine W_block ?_)|refine Rex.o (by (with_reducible constructor);apply Eq.refl) ?_|(intro (hgq : (_ : Bool) = true);(try simp only [bq] at hgq))|((with_reducible apply q_VOk);exact fun _ => ⟨rfl,rfl⟩)|((with_reducible apply q_CRB);kernel_rfl)|((with_reducible apply q_bt);simp only [bq])|((with_reducible apply q_eqN);rfl)|((with_reducible apply q_FE);exact rfl)|omega)
   ·rfl
   ·rw [h1]
    repeat' (first|with_reducible (first|refine Wk.o (by constructor) ?_|refine q_and ?_ ?_|exact True.intro)|fail)
  ·cases h
 | [k, a, b, c, d], h =>
  have hn : ws.length = 5 := by rw [← htl]; rfl
  have hw : w.length = 5 := by rw [hwl, hn]
  have h0 : (w.getD (0 : Int).toNat dW).tx = bL k := hg 0 (by omega)
  have h1 : (w.getD (1 : Int).toNat dW).tx = bL a := hg 1 (by omega)
  have h2 : (w.getD (2 : Int).toNat dW).tx = bL b := hg 2 (by omega)
  have h3 : (w.getD (3 : Int).toNat dW).tx = bL c := hg 3 (by omega)
  have h4 : (w.getD (4 : Int).toNat dW).tx = bL d := hg 4 (by omega)
  simp only at h
  split at h
  ·rename_i hk
   split at h
   ·rename_i hnn
    injection h with h; subst h
    simp only [Bool.and_eq_true] at hnn
    rw [hk] at h0
    have q0 : ((w.getD (0 : Int).toNat { tx := { data := #[] }, ln := 0, co := 0 }).tx.toList == ByteArray.toList ⟨#[115, 101, 99, 116, 105, 111, 110]⟩) = true := wEq h0
    have hD := declSec_ok L w a b c d hw h1 h2 h3 h4 hnn.1.1 hnn.1.2 hnn.2 hL
    refine X_fn mixedX Tryz.func77 rfl (by kernel_rfl) (Nat.le_of_ble_eq_true (by kernel_rfl)) (by kernel_rfl) rfl rfl (Nat.le_of_ble_eq_true rfl) rfl rfl ?_
    simp only [sl0, Nat.zero_add, Nat.reduceAdd]
    repeat' (first|with_reducible (first|refine q_and ?_ ?_|exact True.intro|refine Red.o (by constructor) ?_|assumption)|((with_reducible apply q_call);refine X_call [0] (hD) rfl rfl rfl rfl rfl rfl rfl rfl rfl rfl rfl rfl rfl ?_)|((with_reducible apply q_cond);refine X_cond rfl ?_ ?_;all_goals (intro hbq;(try simp only [bq,and_true,true_and,and_false,false_and,or_true,true_or,or_false,false_or,not_true_eq_false,not_false_eq_true,Bool.true_eq_false,Bool.false_eq_true,q0] at hbq);(try (exfalso;omega))))|with_reducible (first|refine W_seq ?_|refine W_block ?_)|refine Rex.o (by (with_reducible constructor);apply Eq.refl) ?_|(intro (hgq : (_ : Bool) = true);(try simp only [bq] at hgq))|(intro (hgq : (_ : Bool) = false);(try simp only [bq] at hgq))|((with_reducible apply q_VOk);exact fun _ => ⟨rfl,rfl⟩)|((with_reducible apply q_bt);simp only [bq])|omega)
    ·rfl
    ·
     repeat' (first|with_reducible (first|refine Wk.o (by constructor) ?_|refine q_and ?_ ?_|exact True.intro)|fail)
   ·cases h
  ·split at h
   ·rename_i hk
    split at h
    ·rename_i hnn
     injection h with h; subst h
     rw [hk] at h0
     have q0 : ((w.getD (0 : Int).toNat { tx := { data := #[] }, ln := 0, co := 0 }).tx.toList == ByteArray.toList ⟨#[115, 101, 99, 116, 105, 111, 110]⟩) = false := wNe h0 (by decide)
     have q1 : ((w.getD (0 : Int).toNat { tx := { data := #[] }, ln := 0, co := 0 }).tx.toList == ByteArray.toList ⟨#[108, 105, 110, 107]⟩) = true := wEq h0
     have hD := declLnk_ok L w a b c d hw h1 h2 h3 h4 hnn.1 hnn.2.1 hnn.2.2.1 hnn.2.2.2 hL hL2
     refine X_fn mixedX Tryz.func77 rfl (by kernel_rfl) (Nat.le_of_ble_eq_true (by kernel_rfl)) (by kernel_rfl) rfl rfl (Nat.le_of_ble_eq_true rfl) rfl rfl ?_
     simp only [sl0, Nat.zero_add, Nat.reduceAdd]
     repeat' (first|with_reducible (first|refine q_and ?_ ?_|exact True.intro|refine Red.o (by constructor) ?_|assumption)|((with_reducible apply q_call);refine X_call [0] (hD) rfl rfl rfl rfl rfl rfl rfl rfl rfl rfl rfl rfl rfl ?_)|((with_reducible apply q_cond);refine X_cond rfl ?_ ?_;all_goals (intro hbq;(try simp only [bq,and_true,true_and,and_false,false_and,or_true,true_or,or_false,false_or,not_true_eq_false,not_false_eq_true,Bool.true_eq_false,Bool.false_eq_true,q0, q1] at hbq);(try (exfalso;omega))))|with_reducible (first|refine W_seq ?_|refine W_block ?_)|refine Rex.o (by (with_reducible constructor);apply Eq.refl) ?_|(intro (hgq : (_ : Bool) = true);(try simp only [bq] at hgq))|(intro (hgq : (_ : Bool) = false);(try simp only [bq] at hgq))|((with_reducible apply q_VOk);exact fun _ => ⟨rfl,rfl⟩)|((with_reducible apply q_bt);simp only [bq])|omega)
     ·rfl
     ·
      repeat' (first|with_reducible (first|refine Wk.o (by constructor) ?_|refine q_and ?_ ?_|exact True.intro)|fail)
    ·cases h
   ·cases h
 | [k, a, b, c, d, e, f], h =>
  have hn : ws.length = 7 := by rw [← htl]; rfl
  have hw : w.length = 7 := by rw [hwl, hn]
  have h0 : (w.getD (0 : Int).toNat dW).tx = bL k := hg 0 (by omega)
  have h1 : (w.getD (1 : Int).toNat dW).tx = bL a := hg 1 (by omega)
  have h2 : (w.getD (2 : Int).toNat dW).tx = bL b := hg 2 (by omega)
  have h3 : (w.getD (3 : Int).toNat dW).tx = bL c := hg 3 (by omega)
  have h4 : (w.getD (4 : Int).toNat dW).tx = bL d := hg 4 (by omega)
  have h5 : (w.getD (5 : Int).toNat dW).tx = bL e := hg 5 (by omega)
  have h6 : (w.getD (6 : Int).toNat dW).tx = bL f := hg 6 (by omega)
  simp only at h
  split at h
  ·rename_i hk
   injection h with h; subst h
   obtain ⟨hk, he, hnn, hp⟩ := hk
   simp only [Bool.and_eq_true] at hnn
   rw [hk] at h0
   rw [he] at h5
   have q0 : ((w.getD (0 : Int).toNat { tx := { data := #[] }, ln := 0, co := 0 }).tx.toList == ByteArray.toList ⟨#[115, 101, 99, 116, 105, 111, 110]⟩) = true := wEq h0
   have hD := declSecAt_ok L w a b c d [97, 116] f hw h1 h2 h3 h4 h5 h6 hnn.1.1 hnn.1.2 hnn.2 hp hL hS
   refine X_fn mixedX Tryz.func77 rfl (by kernel_rfl) (Nat.le_of_ble_eq_true (by kernel_rfl)) (by kernel_rfl) rfl rfl (Nat.le_of_ble_eq_true rfl) rfl rfl ?_
   simp only [sl0, Nat.zero_add, Nat.reduceAdd]
   repeat' (first|with_reducible (first|refine q_and ?_ ?_|exact True.intro|refine Red.o (by constructor) ?_|assumption)|((with_reducible apply q_call);refine X_call [0] (hD) rfl rfl rfl rfl rfl rfl rfl rfl rfl rfl rfl rfl rfl ?_)|((with_reducible apply q_cond);refine X_cond rfl ?_ ?_;all_goals (intro hbq;(try simp only [bq,and_true,true_and,and_false,false_and,or_true,true_or,or_false,false_or,not_true_eq_false,not_false_eq_true,Bool.true_eq_false,Bool.false_eq_true,q0] at hbq);(try (exfalso;omega))))|with_reducible (first|refine W_seq ?_|refine W_block ?_)|refine Rex.o (by (with_reducible constructor);apply Eq.refl) ?_|(intro (hgq : (_ : Bool) = true);(try simp only [bq] at hgq))|(intro (hgq : (_ : Bool) = false);(try simp only [bq] at hgq))|((with_reducible apply q_VOk);exact fun _ => ⟨rfl,rfl⟩)|((with_reducible apply q_bt);simp only [bq])|omega)
   ·rfl
   ·
    repeat' (first|with_reducible (first|refine Wk.o (by constructor) ?_|refine q_and ?_ ?_|exact True.intro)|fail)
  ·cases h
end Go.Proofs.YtalfibohepbhfaaGreat.Av
namespace Go.Proofs.YtalfibohepbhfaaGreat.Av
def okF : Nat → List UInt8 → Int → Bool
 | 0, _, _ => true
 | n + 1, s, ln => if s = [] then true else okLine (s.take (lineLen s)) && decide ((wOne (s.take (lineLen s)) ln).length ≤ 64) && okF n (s.drop (lineLen s + 1)) (ln + 1)
theorem lineLen_eq : ∀ {s : List UInt8} {m : Nat}, m ≤ s.length → (∀ k, k < m → s.getD k 0 ≠ 10) → (m = s.length ∨ s.getD m 0 = 10) → lineLen s = m
 | [], m, h, _, _ => by simp at h; subst h; rfl
 | b :: s, 0, _, _, h => by
  rcases h with h | h
  ·cases h
  ·have h : b = 10 := h
   subst h; rfl
 | b :: s, m + 1, h, hn, hm => by
  have hb : b ≠ 10 := hn 0 (by omega)
  have ih := lineLen_eq (s := s) (m := m) (by simpa using h) (fun k hk => hn (k + 1) (by omega)) (by simpa using hm)
  unfold lineLen at ih ⊢
  rw [List.takeWhile_cons, if_pos (by simpa using hb), List.length_cons, ih]
theorem bL_extract (s : List UInt8) (i j : Nat) : (bL s).extract i j = bL ((s.drop i).take (j - i)) := by
 apply ByteArray.ext
 rw [ByteArray.data_extract]
 apply Array.ext'
 rw [Array.toList_extract]
 show List.extract s i j = _
 rw [List.extract_eq_take_drop]
 rfl
structure LnG where
 i : Nat
 ln : Nat
 out : List (List PW)
theorem linesF_len : ∀ (n : Nat) (s : List UInt8) (ln : Int), (linesF n s ln).length ≤ s.length
 | 0, s, ln => Nat.zero_le _
 | n + 1, s, ln => by
  unfold linesF
  split
  ·simp
  ·rename_i hs
   have ih := linesF_len n (s.drop (lineLen s + 1)) (ln + 1)
   rw [List.length_drop] at ih
   have h0 : 0 < s.length := List.length_pos_iff.2 hs
   simp only [List.length_append]
   split <;> simp only [List.length_nil, List.length_cons] <;> omega
theorem lines_ok (s : List UInt8) (hs : s.length ≤ 65536) (hok : okF (s.length + 1) s 1 = true) : OkV Tryz.prog 76 [vS (bL s)] [] (.tup [.c (rWs ((linesF (s.length + 1) s 1).map fun l => l.map PW.w)), .c (xI 0), .c (xI 0)]) [] := by
 have hz : (bL s).size = s.length := rfl
 have htot := linesF_len (s.length + 1) s 1
 generalize hT : linesF (s.length + 1) s 1 = T at *
 refine X_fn mixedX Tryz.func76 rfl (by kernel_rfl) (Nat.le_of_ble_eq_true (by kernel_rfl)) (by kernel_rfl) rfl rfl (Nat.le_of_ble_eq_true rfl) rfl rfl ?_
 simp only [sl0, Nat.zero_add, Nat.reduceAdd]
 repeat' (first|with_reducible (first|refine q_and ?_ ?_|exact True.intro)|((with_reducible apply q_CI);intro hbq;(try simp only [bq] at hbq);(try (exfalso;omega)))|refine Rex.o (by (with_reducible constructor);apply Eq.refl) ?_|fail)
 refine W_loopS (fun g : LnG => SS [sS 0 (bL s), sC 5 (.tipr 1 fWs vWs (fun _ => none) [] (g.out.map fun l => l.map PW.w)), sI 6 g.ln, sI 7 g.i] []) (fun g => g.i ≤ s.length + 1 ∧ g.ln ≤ g.i + 1 ∧ ∃ n, (s.drop g.i).length < n ∧ g.out ++ linesF n (s.drop g.i) g.ln = T ∧ okF n (s.drop g.i) g.ln = true) (fun g => s.length + 1 - g.i) ⟨0, 1, []⟩ ?_ ⟨by simp, by simp, s.length + 1, by simp, by simpa using hT, by simpa using hok⟩ ?_
 ·
  refine X_weak rfl rfl rfl ?_ ?_ <;> repeat' (first|with_reducible (first|refine Wk.o (by constructor) ?_|refine q_and ?_ ?_|exact True.intro)|refine q_AgS rfl ?_ ?_|exact CLe.nil_tipS|exact (rfl : known _ = _))
  all_goals rfl
 rintro ⟨i, ln, out⟩ ⟨hi, hln, n, hn, hout, hokn⟩
 simp only at hi hln hout hokn hn
 have hol : out.length ≤ 65536 := by
  have := congrArg List.length hout
  rw [List.length_append] at this
  omega
 by_cases hil : i < s.length
 ·obtain ⟨n, rfl⟩ : ∃ m, n = m + 1 := ⟨n - 1, by omega⟩
  have hne : s.drop i ≠ [] := fun e => by
   have := congrArg List.length e
   rw [List.length_drop] at this
   simp at this
   omega
  have hlF : linesF (n + 1) (s.drop i) ln = (if wOne ((s.drop i).take (lineLen (s.drop i))) ln = [] then [] else [wOne ((s.drop i).take (lineLen (s.drop i))) ln]) ++ linesF n ((s.drop i).drop (lineLen (s.drop i) + 1)) (ln + 1) := by
   conv => lhs; unfold linesF
   rw [if_neg hne]
  unfold okF at hokn
  rw [if_neg hne] at hokn
  simp only [Bool.and_eq_true, decide_eq_true_eq] at hokn
  obtain ⟨⟨ho1, ho2⟩, ho3⟩ := hokn
  rw [hlF] at hout
  clear hlF
  repeat' (first|with_reducible (first|refine q_and ?_ ?_|exact True.intro)|((with_reducible apply q_CI);intro hbq;(try simp only [bq] at hbq);(try (exfalso;omega)))|refine Rex.o (by (with_reducible constructor);apply Eq.refl) ?_|fail)
  refine W_loopS (fun j : Nat => SS [sS 0 (bL s), sC 5 (.tipr 1 fWs vWs (fun _ => none) [] (out.map fun l => l.map PW.w)), sI 6 ln, sI 7 i, sI 8 j] []) (fun j => i ≤ j ∧ j ≤ s.length ∧ ∀ k, i ≤ k → k < j → s.getD k 0 ≠ 10) (fun j => s.length - j) i ?_ ⟨by omega, by omega, fun k h1 h2 => by omega⟩ ?_
  ·
   refine X_weak rfl rfl rfl ?_ ?_ <;> repeat' (first|with_reducible (first|refine Wk.o (by constructor) ?_|exact True.intro)|refine q_AgS rfl ?_ ?_)
  rintro j ⟨hj1, hj2, hj3⟩
  have e2 : (bL s).data.getD (j : Int).toNat 0 = s.getD j 0 := bL_get s j
  by_cases hx : j < s.length ∧ s.getD j 0 ≠ 10
  ·have hx2 : ((bL s).data.getD (j : Int).toNat 0).toNat ≠ 10 := fun e => hx.2 (by rw [← e2]; exact UInt8.toNat_inj.1 e)
   obtain ⟨hx1, _⟩ := hx
   have hj4 : ∀ k, i ≤ k → k < j + 1 → s.getD k 0 ≠ 10 := fun k h1 h2 => by
    rcases Nat.lt_succ_iff_lt_or_eq.1 h2 with h | h
    ·exact hj3 k h1 h
    ·rw [h]; intro e; exact hx2 (by rw [e2, e]; rfl)
   repeat' (first|with_reducible (first|refine q_and ?_ ?_|exact True.intro|assumption)|((with_reducible apply q_CI);intro hbq;(try simp only [bq] at hbq);(try (exfalso;omega)))|refine Rex.o (by (with_reducible constructor);apply Eq.refl) ?_|(intro (hgq : (_ : Bool) = true);(try simp only [bq] at hgq))|((with_reducible apply q_bt);simp only [bq])|omega)
   ·
    refine LoopK_n (j + 1) ?_ (⟨by omega, by omega, hj4⟩) (by (try dsimp only); omega)
    refine X_weak rfl rfl rfl ?_ ?_ <;> repeat' (first|with_reducible (first|refine Wk.o (by constructor) ?_|refine q_and ?_ ?_|exact True.intro)|refine q_AgS rfl ?_ ?_|exact (rfl : known _ = _)|omega)
  ·have hx2 : s.length ≤ j ∨ ((bL s).data.getD (j : Int).toNat 0).toNat = 10 := by
    rcases Nat.lt_or_ge j s.length with h | h
    ·right
     rw [e2]
     have : s.getD j 0 = 10 := by
      rcases Classical.em (s.getD j 0 = 10) with h2 | h2
      ·exact h2
      ·exact absurd ⟨h, h2⟩ hx
     rw [this]; rfl
    ·exact .inl h
   have hLL : lineLen (s.drop i) = j - i := by
    refine lineLen_eq (by rw [List.length_drop]; omega) (fun k hk => ?_) ?_
    ·have := hj3 (i + k) (by omega) (by omega)
     rw [List.getD_eq_getElem?_getD, List.getElem?_drop, ← List.getD_eq_getElem?_getD]
     exact this
    ·rcases hx2 with h | h
     ·left; rw [List.length_drop]; omega
     ·right
      rw [e2] at h
      rw [List.getD_eq_getElem?_getD, List.getElem?_drop, ← List.getD_eq_getElem?_getD, show i + (j - i) = j by omega]
      exact UInt8.toNat_inj.1 h
   rw [hLL] at ho1 ho2 ho3 hout
   have hO := one_ok ((s.drop i).take (j - i)) ln ho1 (by rw [List.length_take, List.length_drop]; omega) ho2
   have hex : (bL s).extract (i : Int).toNat (j : Int).toNat = bL ((s.drop i).take (j - i)) := bL_extract s i j
   rw [← hex] at hO
   have hdd : (s.drop i).drop (j - i + 1) = s.drop (j + 1) := by rw [List.drop_drop]; congr 1; omega
   rw [hdd] at ho3 hout
   generalize wOne ((s.drop i).take (j - i)) ln = ws at *
   have hwl : (ws.map PW.w).length = ws.length := by simp
   have hom : (out.map fun l => l.map PW.w).length = out.length := by simp
   have hnn : (s.drop (j + 1)).length < n := by
    rw [List.length_drop] at hn ⊢
    omega
   by_cases hws : ws = []
   ·rw [hws, if_pos rfl, List.nil_append] at hout
    have hw0 : ws.length = 0 := by rw [hws]; rfl
    repeat' (first|with_reducible (first|refine q_and ?_ ?_|exact True.intro|refine Red.o (by constructor) ?_|assumption)|((with_reducible apply q_call);refine X_pure (hO) rfl ?_)|((with_reducible apply q_CI);intro hbq;(try simp only [bq] at hbq);(try (exfalso;omega)))|refine Rex.o (by (with_reducible constructor);apply Eq.refl) ?_|(intro (hgq : (_ : Bool) = true);(try simp only [bq] at hgq))|((with_reducible apply q_bt);simp only [bq])|omega)
    ·
     refine LoopK_n (⟨j + 1, ln + 1, out⟩) ?_ (⟨by simp only; omega, by simp only; omega, n, hnn, hout, ho3⟩) (by (try dsimp only); omega)
     refine X_weak rfl rfl rfl ?_ ?_ <;> repeat' (first|with_reducible (first|refine Wk.o (by constructor) ?_|refine q_and ?_ ?_|exact True.intro)|refine q_AgS rfl ?_ ?_|exact (rfl : known _ = _))
     all_goals rfl
   ·rw [if_neg hws] at hout
    have hw0 : 0 < ws.length := List.length_pos_iff.2 hws
    repeat' (first|with_reducible (first|refine q_and ?_ ?_|exact True.intro|refine Red.o (by constructor) ?_|assumption)|((with_reducible apply q_call);refine X_pure (hO) rfl ?_)|((with_reducible apply q_CI);intro hbq;(try simp only [bq] at hbq);(try (exfalso;omega)))|refine Rex.o (by (with_reducible constructor);apply Eq.refl) ?_|(intro (hgq : (_ : Bool) = true);(try simp only [bq] at hgq))|((with_reducible apply q_bt);simp only [bq])|((with_reducible apply q_eqN);rfl)|omega)
    ·
     refine LoopK_n (⟨j + 1, ln + 1, out ++ [ws]⟩) ?_ (⟨by simp only; omega, by simp only; omega, n, hnn, by rw [List.append_assoc]; exact hout, ho3⟩) (by (try dsimp only); omega)
     refine X_weak rfl rfl rfl ?_ ?_ <;> repeat' (first|with_reducible (first|refine Wk.o (by constructor) ?_|refine q_and ?_ ?_|exact True.intro)|refine q_AgS rfl ?_ ?_|exact (rfl : known _ = _))
     all_goals first
      | rfl
      | simp [fWs]
 ·have hd : s.drop i = [] := List.drop_eq_nil_of_le (by omega)
  have hTo : out = T := by
   rw [hd] at hout
   have : linesF n [] ln = [] := by cases n <;> simp [linesF]
   rw [this, List.append_nil] at hout
   exact hout
  repeat' (first|with_reducible (first|refine q_and ?_ ?_|exact True.intro|exact TkEq.nil _|refine Red.o (by constructor) ?_|fail)|((with_reducible apply q_CI);intro hbq;(try simp only [bq] at hbq);(try (exfalso;omega)))|refine Rex.o (by (with_reducible constructor);apply Eq.refl) ?_|fail)
  ·rw [hTo]
   repeat' (first|with_reducible (first|refine Wk.o (by constructor) ?_|refine q_and ?_ ?_|exact True.intro)|refine VEq.tup ?_)
theorem declL_len {L L' : Lay} {ws : List PW} (h : declL L ws = some L') : L'.secs.length ≤ L.secs.length + 1 ∧ L'.lnks.length ≤ L.lnks.length + 1 ∧ L'.sts.length ≤ L.sts.length + 1 := by
 unfold declL at h
 split at h
 ·split at h
  ·injection h with h; subst h; simp
  ·cases h
 ·split at h
  ·split at h
   ·injection h with h; subst h; simp
   ·cases h
  ·split at h
   ·split at h
    ·injection h with h; subst h; simp
    ·cases h
   ·cases h
 ·split at h
  ·injection h with h; subst h; simp
  ·cases h
 ·cases h
abbrev vLayT (L : Lay) : ST := .agg [rStr L.sts, rStr L.pts, rSec L.secs, rLnk L.lnks]
structure PaG where
 i : Nat
 L : Lay
theorem parse_ok (s : List UInt8) (L : Lay) (hs : s.length ≤ 65536) (hok : okF (s.length + 1) s 1 = true) (hL : parseL s = some L) (hn : (linesF (s.length + 1) s 1).length ≤ 500) (he : layErr L = 0) (hF : LayFits L) : OkV Tryz.prog 55 [vS (bL s)] [] (.tup [vLayT L, .c (xI 0), .c (xI 0)]) [] := by
 have hLn := lines_ok s hs hok
 unfold parseL at hL
 have hC := refCheck_okV L hF
 rw [he] at hC
 unfold vLay at hC
 generalize linesF (s.length + 1) s 1 = T at *
 have hml : (T.map fun l => l.map PW.w).length = T.length := by simp
 refine X_fn mixedX Tryz.func55 rfl (by kernel_rfl) (Nat.le_of_ble_eq_true (by kernel_rfl)) (by kernel_rfl) rfl rfl (Nat.le_of_ble_eq_true rfl) rfl rfl ?_
 simp only [sl0, Nat.zero_add, Nat.reduceAdd]
 repeat' (first|with_reducible (first|refine q_and ?_ ?_|exact True.intro|refine Red.o (by constructor) ?_|fail)|((with_reducible apply q_call);refine X_pure (hLn) rfl ?_)|((with_reducible apply q_CI);intro hbq;(try simp only [bq] at hbq);(try (exfalso;omega)))|refine Rex.o (by (with_reducible constructor);apply Eq.refl) ?_|fail)
 clear hLn hok hs
 refine W_loopS (fun g : PaG => SS [sC 2 (pB 0), sC 5 (rWs (T.map fun l => l.map PW.w)), sC 8 (pB 1), sI 9 g.i] [some (.cells [.c (.f .nils), .c (.f .nils), .c (.f .nils), .c (.f .nils)]), bLayT g.L]) (fun g => g.i ≤ T.length ∧ declsL g.L (T.drop g.i) = some L ∧ g.L.secs.length ≤ g.i ∧ g.L.lnks.length ≤ g.i ∧ g.L.sts.length ≤ g.i) (fun g => T.length - g.i) ⟨0, ⟨[], [], [], []⟩⟩ ?_ ⟨by simp, by simpa using hL, by simp, by simp, by simp⟩ ?_
 ·
  refine X_weak rfl rfl rfl ?_ ?_ <;> repeat' (first|with_reducible (first|refine Wk.o (by constructor) ?_|refine q_and ?_ ?_|exact True.intro)|refine q_AgS rfl ?_ ?_|exact (rfl : known _ = _))
  all_goals rfl
 rintro ⟨i, M⟩ ⟨hi, hM, hm1, hm2, hm3⟩
 simp only at hi hM hm1 hm2 hm3
 by_cases hil : i < T.length
 ·have hd : T.drop i = T.getD i [] :: T.drop (i + 1) := by
   rw [List.drop_eq_getElem_cons hil, List.getD_eq_getElem?_getD, List.getElem?_eq_getElem hil]; rfl
  rw [hd] at hM
  unfold declsL at hM
  split at hM
  ·rename_i L' hL'
   have hlen := declL_len hL'
   have hg : (T.map fun l => l.map PW.w).getD (i : Int).toNat [] = (T.getD i []).map PW.w := by
    simp [List.getD_eq_getElem?_getD, List.getElem?_map, List.getElem?_eq_getElem hil]
   have hD := declare_ok M L' (T.getD i []) hL' (by omega) (by omega) (by omega)
   rw [← hg] at hD
   repeat' (first|with_reducible (first|refine q_and ?_ ?_|exact True.intro|refine Red.o (by constructor) ?_|assumption)|((with_reducible apply q_call);refine X_call [1] (hD) rfl rfl rfl rfl rfl rfl rfl rfl rfl rfl rfl rfl rfl ?_)|((with_reducible apply q_CI);intro hbq;(try simp only [bq] at hbq);(try (exfalso;omega)))|refine Rex.o (by (with_reducible constructor);apply Eq.refl) ?_|((with_reducible apply q_VOk);exact fun _ => ⟨rfl,rfl⟩)|omega|(dsimp only;omega))
   ·
    refine LoopK_n (⟨i + 1, L'⟩) ?_ (⟨by simp only; omega, hM, by simp only; omega, by simp only; omega, by simp only; omega⟩) (by (try dsimp only); omega)
    refine X_weak rfl rfl rfl ?_ ?_ <;> repeat' (first|with_reducible (first|refine Wk.o (by constructor) ?_|refine q_and ?_ ?_|exact True.intro)|refine q_AgS rfl ?_ ?_|exact (rfl : known _ = _))
    ·rfl
  ·cases hM
 ·have hie : i = T.length := by omega
  subst hie
  have hML : M = L := by
   rw [List.drop_length] at hM
   unfold declsL at hM
   injection hM
  subst hML
  repeat' (first|with_reducible (first|refine q_and ?_ ?_|exact True.intro|exact TkEq.nil _|refine Red.o (by constructor) ?_|fail)|((with_reducible apply q_call);refine X_pure (hC) rfl ?_)|((with_reducible apply q_CI);intro hbq;(try simp only [bq] at hbq);(try (exfalso;omega)))|refine Rex.o (by (with_reducible constructor);apply Eq.refl) ?_|fail)
  ·rfl
end Go.Proofs.YtalfibohepbhfaaGreat.Av
