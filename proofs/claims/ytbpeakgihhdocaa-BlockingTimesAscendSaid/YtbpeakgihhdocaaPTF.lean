/- What the claim uses of its texts: Dy2, Arith, Arith2, BrA, Dy3, Dy4, Bl1, Kp5, La2, Bl2, Bl3, Bl7, La1, Lb1, Fr, Wb1. -/
import Derived.Test.YtbpeakgihhdocaaPTE
namespace Go.Proofs.Ytbpeakgihhdocaa.Av
set_option linter.unusedVariables false
set_option linter.unusedSimpArgs false
set_option maxRecDepth 4000
set_option maxHeartbeats 4000000
abbrev bInt (l : List Int) : Option SB := some (.els 1 fInt vInt mInt 0 l)
def row (n : Nat) (f : Nat → Int) : List Int := (List.range n).map f
theorem row_len (n : Nat) (f : Nat → Int) : (row n f).length = n := by simp [row]
theorem row_get {n : Nat} {f : Nat → Int} {i : Nat} (h : i < n) : (row n f).getD i 0 = f i := by simp [row, List.getD_eq_getElem?_getD, h]
theorem row_set {n : Nat} {f g : Nat → Int} {i : Nat} {x : Int} (hx : g i = x) (h : ∀ j, j < n → j ≠ i → g j = f j) : (row n f).set i x = row n g := by
  apply List.ext_getElem
  · simp [row]
  · intro j h1 h2
    have hj : j < n := by simpa [row] using h2
    rw [List.getElem_set]
    split
    · rename_i e; subst e; simp [row, hx]
    · rename_i e; simp only [row, List.getElem_map, List.getElem_range]; exact (h j hj (fun e' => e e'.symm)).symm
theorem row_ext {n : Nat} {f g : Nat → Int} (h : ∀ j, j < n → f j = g j) : row n f = row n g := by
  unfold row
  exact List.map_congr_left fun j hj => h j (List.mem_range.1 hj)
theorem row_zero (n : Nat) : List.replicate n (0 : Int) = row n fun _ => 0 := by
  apply List.ext_getElem
  · simp [row]
  · intro j h1 h2; simp [row]
theorem squares_ok (cs : List (Int × Int)) (s : Nat) (nm : ByteArray) (l sp ac br : Int) (h : badRun cs s l sp ac br = 0) : OkV Try.prog 78 [.c (rCell cs), .c (xI s), vS5 nm l sp ac br] [] (.c (.c (.arr 1 0 (cs.length - s + 1) (cs.length - s + 1)))) [bS5 nm l sp ac br, bInt (row (cs.length - s + 1) (sqW cs s l.toNat sp ac br))] := by
  obtain ⟨hc, hn, hall, h0, h2⟩ := bad_zero h
  obtain ⟨l1, l2, l3, l4, l5, l6, l7, l8⟩ := chk_of hc
  have hL := limit_ok cs s nm l sp ac br (by omega) hn (by omega) l2
  refine X_fn mixedX Try.func78 rfl (by kernel_rfl) (Nat.le_of_ble_eq_true (by kernel_rfl)) (by kernel_rfl) rfl rfl (Nat.le_of_ble_eq_true rfl) rfl rfl ?_
  simp only [sl0, Nat.zero_add, Nat.reduceAdd]
  repeat' (first
    |with_reducible (first|refine q_and ?_ ?_|exact True.intro|exact TkEq.nil _|refine Red.o (by constructor) ?_|refine blockK_o' rfl ?_|refine LoopX_e' rfl ?_|assumption)
    |((with_reducible apply q_call);refine X_pure (hL) rfl ?_)
    |((with_reducible apply q_CI);intro hbq;(try simp only [bq] at hbq);(try (exfalso;omega)))
    |refine Rex.o (by (with_reducible constructor);apply Eq.refl) ?_
    |(intro (hgq : (_ : Bool) = true);(try simp only [bq] at hgq))
    |(intro (hgq : (_ : Bool) = false);(try simp only [bq] at hgq))
    |((with_reducible apply q_VOk);exact fun _ => ⟨rfl,rfl⟩)|(intro _;exact rfl)|((with_reducible apply q_CRB);kernel_rfl)|((with_reducible apply q_bt);simp only [bq])|((with_reducible apply q_eqN);rfl)|((with_reducible apply q_FE);exact rfl)|with_reducible (first|exact isByte_wrap _|exact isByte_nat _)|(simp only [hgq,bq];done)|omega|(dsimp only;omega))
  clear hL
  have eN : ((cs.length : Int) - s + 1).toNat = cs.length - s + 1 := by omega
  refine W_loopS (fun i : Nat => SS [sC 0 (rCell cs), sI 1 s, sC 5 (pB 0), sI 7 cs.length, sC 8 (.c (.arr 1 0 (cs.length - s + 1) (cs.length - s + 1))), sI 9 (limitOf cs (s + i) l.toNat sp), sI 10 (s + i + 1 : Nat)] [bS5 nm l sp ac br, bInt (row (cs.length - s + 1) fun j => if j ≤ i then fwd cs s l.toNat sp ac j else 0)]) (fun i => s + i + 1 ≤ cs.length) (fun i => cs.length - i) 0 ?_ (by omega) ?_
  ·
    refine X_weak rfl rfl rfl ?_ ?_ <;> repeat' (first|with_reducible (first|refine Wk.o (by constructor) ?_|refine q_and ?_ ?_|exact True.intro)|refine q_AgS rfl ?_ ?_|exact CLe.nil_tipS|exact CLe.nil_rowS|refine HLe.cells ?_ ?_|refine HLe.els ?_ ?_|refine SLe.cons ?_ ?_|exact (rfl : known _ = _)|with_reducible rfl|omega)
    · rw [eN, row_zero]
      refine row_ext fun j hj => ?_
      by_cases hj0 : j ≤ 0
      · rw [if_pos hj0, show j = 0 by omega]; rfl
      · rw [if_neg hj0]
    · rfl
  intro i hi
  by_cases hlt : s + i + 1 < cs.length
  · have hL := limit_ok cs (s + i + 1) nm l sp ac br hlt hn (by omega) l2
    have hce := cell_of (List.all_eq_true.1 hall _ (List.getElem_mem (show s + i < cs.length by omega)))
    have eg : cs.getD (((s + i + 1 : Nat) : Int) - 1).toNat (0, 0) = cs[s + i] := by
      rw [show (((s + i + 1 : Nat) : Int) - 1).toNat = s + i by omega]; exact getD_at _ _ _
    rw [← eg] at hce
    have hG := gain_ok (cs.getD (((s + i + 1 : Nat) : Int) - 1).toNat (0, 0)) nm l sp ac br ⟨hce.2.2.1, hce.2.2.2⟩ l5 l6
    have hgr := gain_range (cs.getD (((s + i + 1 : Nat) : Int) - 1).toNat (0, 0)).2 ac l5 l6
    have a1 := limit_range cs (s + i) l.toNat sp l3 hall
    have a2 := limit_range cs (s + i + 1) l.toNat sp l3 hall
    have a3 := sq_range (limitOf cs (s + i) l.toNat sp) (limitOf cs (s + i + 1) l.toNat sp) a1.1 (by omega) a2.1 (by omega)
    have a4 := fwd_range cs s l.toNat sp ac l3 l4 l5 l6 hall i
    have a5 : (row (cs.length - s + 1) fun j => if j ≤ i then fwd cs s l.toNat sp ac j else 0).getD (((s + i + 1 : Nat) : Int) - 1 - s).toNat 0 = fwd cs s l.toNat sp ac i := by
      rw [show (((s + i + 1 : Nat) : Int) - 1 - s).toNat = i by omega, row_get (by omega), if_pos (Nat.le_refl _)]
    rw [← a5] at a4
    have a6 := row_len (cs.length - s + 1) fun j => if j ≤ i then fwd cs s l.toNat sp ac j else 0
    repeat' (first
      |with_reducible (first|refine q_and ?_ ?_|exact True.intro|exact TkEq.nil _|refine Red.o (by constructor) ?_|refine blockK_o' rfl ?_|refine LoopX_e' rfl ?_|assumption)
      |((with_reducible apply q_call);first|refine X_pure (hL) rfl ?_|refine X_pure (hG) rfl ?_)
      |((with_reducible apply q_CI);intro hbq;(try simp only [bq] at hbq);(try (exfalso;omega)))
      |refine Rex.o (by (with_reducible constructor);apply Eq.refl) ?_
      |(intro (hgq : (_ : Bool) = true);(try simp only [bq] at hgq))
      |(intro (hgq : (_ : Bool) = false);(try simp only [bq] at hgq))
      |((with_reducible apply q_VOk);exact fun _ => ⟨rfl,rfl⟩)|(intro _;exact rfl)|((with_reducible apply q_CRB);kernel_rfl)|((with_reducible apply q_bt);simp only [bq])|((with_reducible apply q_eqN);rfl)|((with_reducible apply q_FE);exact rfl)|with_reducible (first|exact isByte_wrap _|exact isByte_nat _)|(simp only [hgq,bq];done)|omega|(dsimp only;omega))
    · rfl
    ·
      refine LoopK_n (i + 1) ?_ ((by omega)) (by (try dsimp only); omega)
      refine X_weak rfl rfl rfl ?_ ?_ <;> repeat' (first|with_reducible (first|refine Wk.o (by constructor) ?_|refine q_and ?_ ?_|exact True.intro)|refine q_AgS rfl ?_ ?_|exact CLe.nil_tipS|exact CLe.nil_rowS|refine HLe.cells ?_ ?_|refine HLe.els ?_ ?_|refine SLe.cons ?_ ?_|exact (rfl : known _ = _)|with_reducible rfl|omega)
      · rw [a5, show (((s + i + 1 : Nat) : Int) - s).toNat = i + 1 by omega, show (((s + i + 1 : Nat) : Int) - 1).toNat = s + i by omega]
        refine row_set (i := i + 1) ?_ fun j hj hne => ?_
        · rw [if_pos (Nat.le_refl _)]; rfl
        · by_cases hji : j ≤ i
          · rw [if_pos hji, if_pos (by omega)]
          · rw [if_neg hji, if_neg (by omega)]
      · rfl
  ·
    repeat' (first
      |with_reducible (first|refine q_and ?_ ?_|exact True.intro|exact TkEq.nil _|refine Red.o (by constructor) ?_|refine blockK_o' rfl ?_|refine LoopX_e' rfl ?_|assumption)
      |((with_reducible apply q_CI);intro hbq;(try simp only [bq] at hbq);(try (exfalso;omega)))
      |refine Rex.o (by (with_reducible constructor);apply Eq.refl) ?_
      |(intro (hgq : (_ : Bool) = true);(try simp only [bq] at hgq))
      |(intro (hgq : (_ : Bool) = false);(try simp only [bq] at hgq))
      |((with_reducible apply q_VOk);exact fun _ => ⟨rfl,rfl⟩)|(intro _;exact rfl)|((with_reducible apply q_CRB);kernel_rfl)|((with_reducible apply q_bt);simp only [bq])|((with_reducible apply q_eqN);rfl)|((with_reducible apply q_FE);exact rfl)|with_reducible (first|exact isByte_wrap _|exact isByte_nat _)|(simp only [hgq,bq];done)|omega|(dsimp only;omega))
    refine W_loopS (fun d : Nat => SS [sC 0 (rCell cs), sI 1 s, sC 5 (pB 0), sI 7 cs.length, sC 8 (.c (.arr 1 0 (cs.length - s + 1) (cs.length - s + 1))), sI 13 ((cs.length : Int) - 1 - d)] [bS5 nm l sp ac br, bInt (row (cs.length - s + 1) fun j => if j + d < cs.length - s then fwd cs s l.toNat sp ac j else sqW cs s l.toNat sp ac br j)]) (fun d => s + d + 1 ≤ cs.length) (fun d => cs.length - d) 0 ?_ (by omega) ?_
    ·
      refine X_weak rfl rfl rfl ?_ ?_ <;> repeat' (first|with_reducible (first|refine Wk.o (by constructor) ?_|refine q_and ?_ ?_|exact True.intro)|refine q_AgS rfl ?_ ?_|exact CLe.nil_tipS|exact CLe.nil_rowS|refine HLe.cells ?_ ?_|refine HLe.els ?_ ?_|refine SLe.cons ?_ ?_|exact (rfl : known _ = _)|with_reducible rfl|omega)
      all_goals (
        refine row_ext fun j hj => ?_
        by_cases hji : j ≤ i
        · rw [if_pos hji, if_pos (by omega)]
        · rw [if_neg hji, if_neg (by omega), show j = cs.length - s by omega, sqW_end (by omega)])
    intro d hd
    by_cases hdl : s + d + 1 < cs.length
    · generalize he : cs.length - 1 - d - s = e
      have e1 : ((cs.length : Int) - 1 - d).toNat = s + e := by omega
      have hce := cell_of (List.all_eq_true.1 hall _ (List.getElem_mem (show s + e < cs.length by omega)))
      have eg : cs.getD ((cs.length : Int) - 1 - d).toNat (0, 0) = cs[s + e] := by rw [e1]; exact getD_at _ _ _
      rw [← eg] at hce
      have hG := loss_ok (cs.getD ((cs.length : Int) - 1 - d).toNat (0, 0)) nm l sp ac br ⟨hce.2.2.1, hce.2.2.2⟩ l7 l8
      have hgr := loss_range (cs.getD ((cs.length : Int) - 1 - d).toNat (0, 0)).2 br l7 l8
      have a6 := row_len (cs.length - s + 1) fun j => if j + d < cs.length - s then fwd cs s l.toNat sp ac j else sqW cs s l.toNat sp ac br j
      have a4 := sqW_range (start := s) (l := l.toNat) l3 l4 l5 l6 l7 l8 hall (e + 1)
      have a5 : (row (cs.length - s + 1) fun j => if j + d < cs.length - s then fwd cs s l.toNat sp ac j else sqW cs s l.toNat sp ac br j).getD ((cs.length : Int) - 1 - d + 1 - s).toNat 0 = sqW cs s l.toNat sp ac br (e + 1) := by
        rw [show ((cs.length : Int) - 1 - d + 1 - s).toNat = e + 1 by omega, row_get (by omega), if_neg (by omega)]
      have a7 : (row (cs.length - s + 1) fun j => if j + d < cs.length - s then fwd cs s l.toNat sp ac j else sqW cs s l.toNat sp ac br j).getD ((cs.length : Int) - 1 - d - s).toNat 0 = fwd cs s l.toNat sp ac e := by
        rw [show ((cs.length : Int) - 1 - d - s).toNat = e by omega, row_get (by omega), if_pos (by omega)]
      rw [← a5] at a4
      repeat' (first
        |with_reducible (first|refine q_and ?_ ?_|exact True.intro|exact TkEq.nil _|refine Red.o (by constructor) ?_|refine blockK_o' rfl ?_|refine LoopX_e' rfl ?_|assumption)
        |((with_reducible apply q_call);refine X_pure (hG) rfl ?_)
        |((with_reducible apply q_CI);intro hbq;(try simp only [bq] at hbq);(try (exfalso;omega)))
        |refine Rex.o (by (with_reducible constructor);apply Eq.refl) ?_
        |(intro (hgq : (_ : Bool) = true);(try simp only [bq] at hgq))
        |(intro (hgq : (_ : Bool) = false);(try simp only [bq] at hgq))
        |((with_reducible apply q_VOk);exact fun _ => ⟨rfl,rfl⟩)|(intro _;exact rfl)|((with_reducible apply q_CRB);kernel_rfl)|((with_reducible apply q_bt);simp only [bq])|((with_reducible apply q_eqN);rfl)|((with_reducible apply q_FE);exact rfl)|with_reducible (first|exact isByte_wrap _|exact isByte_nat _)|(simp only [hgq,bq];done)|omega|(dsimp only;omega))
      · rfl
      ·
        refine LoopK_n (d + 1) ?_ ((by omega)) (by (try dsimp only); omega)
        refine X_weak rfl rfl rfl ?_ ?_ <;> repeat' (first|with_reducible (first|refine Wk.o (by constructor) ?_|refine q_and ?_ ?_|exact True.intro)|refine q_AgS rfl ?_ ?_|exact CLe.nil_tipS|exact CLe.nil_rowS|refine HLe.cells ?_ ?_|refine HLe.els ?_ ?_|refine SLe.cons ?_ ?_|exact (rfl : known _ = _)|with_reducible rfl|omega)
        all_goals (
          rw [a5, a7, show ((cs.length : Int) - 1 - d - s).toNat = e by omega, e1]
          refine row_set (i := e) ?_ fun j hj hne => ?_
          · rw [if_neg (by omega)]
            exact sqW_mid e (by omega) (by omega)
          · by_cases hji : j + d < cs.length - s
            · rw [if_pos hji, if_pos (by omega)]
            · rw [if_neg hji, if_neg (by omega)])
    ·
      have hr : row (cs.length - s + 1) (fun j => if j + d < cs.length - s then fwd cs s l.toNat sp ac j else sqW cs s l.toNat sp ac br j) = row (cs.length - s + 1) (sqW cs s l.toNat sp ac br) := row_ext fun j hj => by
        by_cases hj0 : j + d < cs.length - s
        · rw [if_pos hj0, show j = 0 by omega, sqW_zero]; rfl
        · rw [if_neg hj0]
      repeat' (first
        |with_reducible (first|refine q_and ?_ ?_|exact True.intro|exact TkEq.nil _|refine Red.o (by constructor) ?_|refine blockK_o' rfl ?_|refine LoopX_e' rfl ?_|assumption)
        |((with_reducible apply q_CI);intro hbq;(try simp only [bq] at hbq);(try (exfalso;omega)))
        |refine Rex.o (by (with_reducible constructor);apply Eq.refl) ?_
        |(intro (hgq : (_ : Bool) = true);(try simp only [bq] at hgq))
        |(intro (hgq : (_ : Bool) = false);(try simp only [bq] at hgq))
        |((with_reducible apply q_VOk);exact fun _ => ⟨rfl,rfl⟩)|(intro _;exact rfl)|((with_reducible apply q_CRB);kernel_rfl)|((with_reducible apply q_bt);simp only [bq])|((with_reducible apply q_eqN);rfl)|((with_reducible apply q_FE);exact rfl)|with_reducible (first|exact isByte_wrap _|exact isByte_nat _)|(simp only [hgq,bq];done)|omega|(dsimp only;omega))
      · rfl
      · rw [hr]
        repeat' (first|with_reducible (first|refine Wk.o (by constructor) ?_|refine q_and ?_ ?_|exact True.intro)|refine VEq.c ?_|refine VEq.agg ?_|refine VEq.tup ?_|refine TkEq.cells ?_ ?_|refine TkEq.els ?_ ?_|refine SEqL.cons ?_ ?_|refine TEqL.agg ?_ ?_|refine CEq.rows ?_|refine CEq.int ?_|rfl|omega)
end Go.Proofs.Ytbpeakgihhdocaa.Av
namespace Go.Proofs.Ytbpeakgihhdocaa
open Go.RowKit
set_option linter.unusedVariables false
theorem refFloor_any (a b : Int) (w : World) (ha : -9223372036854775808 ≤ a) (ha' : a ≤ 9223372036854775807) (hb : 1 ≤ b) (hb' : b ≤ 9223372036854775807) :
    Calls Try.prog 68 #[.int .i64 a, .int .i64 b] w fun e w' => e = .returned (.int .i64 (a / b)) ∧ w = w' := by
  by_cases h : 0 ≤ a
  · have h1 := Int.emod_nonneg a (show b ≠ 0 by omega)
    have h2 := Pl.ediv_le_self' a b h hb
    go_enter Try.func68, Try.ntmps68
    go_wp2
    go_ret
    exact ⟨rfl, rfl⟩
  · obtain ⟨h1, h2, h3, h4⟩ := Pl.tdiv_of_neg a b (by omega) hb
    have H4 := Lib.hid h4
    clear h4
    by_cases ht : a.tmod b < 0
    · obtain ⟨h5, h6⟩ := h3 ht
      have H6 := Lib.hid h6
      clear h3 h6
      go_enter Try.func68, Try.ntmps68
      go_wp2
      go_ret
      exact ⟨ret_int H6.out, rfl⟩
    · clear h3
      go_enter Try.func68, Try.ntmps68
      go_wp2
      go_ret
      exact ⟨ret_int (H4.out ht), rfl⟩
theorem floorDiv_any (a b : Int) (w : World) (ha : -9223372036854775808 ≤ a) (ha' : a ≤ 9223372036854775807) (hb : 1 ≤ b) (hb' : b ≤ 9223372036854775807) :
    Calls Try.prog 87 #[.int .i64 a, .int .i64 b] w fun e w' => e = .returned (.tuple #[.int .i64 (a / b), .int .i64 0]) ∧ w = w' := by
  by_cases h : 0 ≤ a
  · have h1 := Int.emod_nonneg a (show b ≠ 0 by omega)
    have h2 := Pl.ediv_le_self' a b h hb
    go_enter Try.func87, Try.ntmps87
    go_wp2
    go_ret2
    exact ⟨rfl, rfl⟩
  · obtain ⟨h1, h2, h3, h4⟩ := Pl.tdiv_of_neg a b (by omega) hb
    have H4 := Lib.hid h4
    clear h4
    by_cases ht : a.tmod b < 0
    · obtain ⟨h5, h6⟩ := h3 ht
      have H6 := Lib.hid h6
      clear h3 h6
      go_enter Try.func87, Try.ntmps87
      go_wp2
      go_ret2
      exact ⟨ret_int2 H6.out rfl, rfl⟩
    · clear h3
      go_enter Try.func87, Try.ntmps87
      go_wp2
      go_ret2
      exact ⟨ret_int2 (H4.out ht) rfl, rfl⟩
theorem refCeil_any (a b : Int) (w : World) (ha : -9223372036854775808 ≤ a) (ha' : a ≤ 9223372036854775807) (hb : 1 ≤ b) (hb' : b ≤ 9223372036854775807) :
    Calls Try.prog 13 #[.int .i64 a, .int .i64 b] w fun e w' => e = .returned (.int .i64 (Pl.cdiv a b)) ∧ w = w' := by
  by_cases h : 0 ≤ a
  · have h1 := Int.emod_nonneg a (show b ≠ 0 by omega)
    have h2 := Pl.ediv_le_self' a b h hb
    by_cases hr : 0 < a % b
    · have h3 : a / b < a := by
        have := Int.ediv_mul_add_emod a b
        have := Int.mul_le_mul_of_nonneg_left hb h2.1
        omega
      have H := Lib.hid (Pl.cdiv_pos a b h hb hr)
      go_enter Try.func13, Try.ntmps13
      go_wp2
      go_ret
      exact ⟨ret_int H.out.symm, rfl⟩
    · have H := Lib.hid (Pl.cdiv_zero a b hb (by omega))
      go_enter Try.func13, Try.ntmps13
      go_wp2
      go_ret
      exact ⟨ret_int H.out.symm, rfl⟩
  · obtain ⟨h1, h2, h3, h4⟩ := Pl.tdiv_of_neg a b (by omega) hb
    obtain ⟨g1, g2, g3, g4⟩ := Pl.tmod_of_neg a b (by omega) hb
    have H := Lib.hid (Pl.cdiv_neg a b (by omega) hb)
    clear h4 h3 g3 g4
    go_enter Try.func13, Try.ntmps13
    go_wp2
    go_ret
    exact ⟨ret_int H.out.symm, rfl⟩
theorem ceilDiv_any (a b : Int) (w : World) (ha : -9223372036854775808 ≤ a) (ha' : a ≤ 9223372036854775807) (hb : 1 ≤ b) (hb' : b ≤ 9223372036854775807) :
    Calls Try.prog 52 #[.int .i64 a, .int .i64 b] w fun e w' => e = .returned (.tuple #[.int .i64 (Pl.cdiv a b), .int .i64 0]) ∧ w = w' := by
  by_cases h : 0 ≤ a
  · have h1 := Int.emod_nonneg a (show b ≠ 0 by omega)
    have h2 := Pl.ediv_le_self' a b h hb
    by_cases hr : 0 < a % b
    · have h3 : a / b < a := by
        have := Int.ediv_mul_add_emod a b
        have := Int.mul_le_mul_of_nonneg_left hb h2.1
        omega
      have H := Lib.hid (Pl.cdiv_pos a b h hb hr)
      go_enter Try.func52, Try.ntmps52
      go_wp2
      go_ret2
      exact ⟨ret_int2 H.out.symm rfl, rfl⟩
    · have H := Lib.hid (Pl.cdiv_zero a b hb (by omega))
      go_enter Try.func52, Try.ntmps52
      go_wp2
      go_ret2
      exact ⟨ret_int2 H.out.symm rfl, rfl⟩
  · obtain ⟨h1, h2, h3, h4⟩ := Pl.tdiv_of_neg a b (by omega) hb
    obtain ⟨g1, g2, g3, g4⟩ := Pl.tmod_of_neg a b (by omega) hb
    have H := Lib.hid (Pl.cdiv_neg a b (by omega) hb)
    clear h4 h3 g3 g4
    go_enter Try.func52, Try.ntmps52
    go_wp2
    go_ret2
    exact ⟨ret_int2 H.out.symm rfl, rfl⟩
end Go.Proofs.Ytbpeakgihhdocaa
namespace Go.Proofs.Ytbpeakgihhdocaa
open Go.RowKit
set_option linter.unusedVariables false
theorem sqrt_any (n : Nat) (w : World) (hn : (n : Int) ≤ 9223372036854775807) :
    Calls Try.prog 79 #[.int .i64 n] w fun e w' => e = .returned (.int .i64 (Pl.isqrt n : Nat)) ∧ w = w' := by
  go_enter Try.func79, Try.ntmps79
  go_wp2
  go_loop [3, 4] (fun u v => ∃ k p r : Nat, Hid (p = 2 ^ k) ∧ k ≤ 32 ∧ r + p ≤ 4294967296 ∧ Hid (r * r ≤ n ∧ n < (r + p) * (r + p)) ∧ u = .int .i64 r ∧ v = .int .i64 ((p / 2 : Nat) : Int)) (fun _ v => (intOf v).toNat)
  case atStart => exact ⟨32, 4294967296, 0, Lib.hid rfl, by omega, by omega, Lib.hid (by omega), rfl, rfl⟩
  case round =>
    obtain ⟨k, p, r, Hp, hk, hr, Hn, rfl, rfl⟩ := hrel
    cases k with
    | zero =>
      have hp : p = 1 := Hp.out
      subst hp
      go_wp2
      go_ret
      exact ⟨ret_int (by rw [Pl.isqrt_unique n r Hn.out.1 Hn.out.2]), rfl⟩
    | succ k =>
      obtain ⟨q, Hq⟩ : ∃ q : Nat, Hid (q = 2 ^ k) := ⟨_, Lib.hid rfl⟩
      obtain rfl : p = 2 * q := by rw [Hp.out, Hq.out, Nat.pow_succ]; omega
      have hq : 1 ≤ q := by rw [Hq.out]; exact Nat.one_le_two_pow
      have hle : Hid (r + q ≤ n / (r + q) ↔ (r + q) * (r + q) ≤ n) := Lib.hid (Nat.le_div_iff_mul_le (by omega))
      have hi1 : (n : Int) / ((r : Int) + (q : Int)) = ((n / (r + q) : Nat) : Int) := by simp
      have hi2 : (n : Int) / ((r : Int) + (q : Int)) ≤ 9223372036854775807 := by
        rw [hi1]; have := Nat.div_le_self n (r + q); omega
      rw [show 2 * q / 2 = q by omega]
      by_cases hd : r + q ≤ n / (r + q)
      · have hi3 : (r : Int) + (q : Int) ≤ (n : Int) / ((r : Int) + (q : Int)) := by rw [hi1]; omega
        have Hm : Hid ((r + q) * (r + q) ≤ n ∧ n < (r + q + q) * (r + q + q)) := Lib.hid ⟨hle.out.1 hd, by rw [Nat.add_assoc, ← Nat.two_mul]; exact Hn.out.2⟩
        clear hi1 hd
        go_wp2
        go_round
        case rel => exact ⟨k, q, r + q, Hq, by omega, by omega, Hm, by go_num, by go_num⟩
        case measure => simp [intOf]; omega
      · have hi3 : (n : Int) / ((r : Int) + (q : Int)) < (r : Int) + (q : Int) := by rw [hi1]; omega
        have hi4 : 0 ≤ (n : Int) / ((r : Int) + (q : Int)) := by rw [hi1]; exact Int.natCast_nonneg _
        have Hm : Hid (r * r ≤ n ∧ n < (r + q) * (r + q)) := Lib.hid ⟨Hn.out.1, Nat.lt_of_not_le (fun h => hd (hle.out.2 h))⟩
        clear hi1 hd
        go_wp2
        go_round
        case rel => exact ⟨k, q, r, Hq, by omega, by omega, Hm, rfl, by go_num⟩
        case measure => simp [intOf]; omega
end Go.Proofs.Ytbpeakgihhdocaa
namespace Go.Proofs.Ytbpeakgihhdocaa.Av
open Go.RowKit
set_option linter.unusedVariables false
set_option linter.unusedSimpArgs false
theorem two_arg {vals : Array Value} (h : vals.size = 2) : vals = #[vals[0], vals[1]] := by
  apply Array.ext
  · simp [h]
  · intro i h1 h2
    match i, h2 with
    | 0, _ => rfl
    | 1, _ => rfl
theorem refFloor_ok (a b : Int) (ha : -9223372036854775808 ≤ a ∧ a ≤ 9223372036854775807) (hb : 1 ≤ b ∧ b ≤ 9223372036854775807) : Ok Try.prog 68 [i64 a, i64 b] [] (i64 (HDiv.hDiv a b)) [] := by
  refine ok_old _ Try.func68 (by kernel_rfl) (by kernel_rfl) rfl rfl fun w κ ρ vals hv hr => ⟨_, plain_i, ?_⟩
  have hv : vals.size = 2 := hv
  have h0 : vals[0] = .int .i64 a := (repF_v.1 (hr 0 (by simp) (by omega) (.slot 0))).1
  have h1 : vals[1] = .int .i64 b := (repF_v.1 (hr 1 (by simp) (by omega) (.slot 0))).1
  rw [two_arg hv, h0, h1]
  exact (refFloor_any a b w ha.1 ha.2 hb.1 hb.2).mono fun e w' ⟨h1, h2⟩ => ⟨h1, by subst h2; exact Below.refl _ _⟩
theorem refCeil_ok (a b : Int) (ha : -9223372036854775808 ≤ a ∧ a ≤ 9223372036854775807) (hb : 1 ≤ b ∧ b ≤ 9223372036854775807) : Ok Try.prog 13 [i64 a, i64 b] [] (i64 (Pl.cdiv a b)) [] := by
  refine ok_old _ Try.func13 (by kernel_rfl) (by kernel_rfl) rfl rfl fun w κ ρ vals hv hr => ⟨_, plain_i, ?_⟩
  have hv : vals.size = 2 := hv
  have h0 : vals[0] = .int .i64 a := (repF_v.1 (hr 0 (by simp) (by omega) (.slot 0))).1
  have h1 : vals[1] = .int .i64 b := (repF_v.1 (hr 1 (by simp) (by omega) (.slot 0))).1
  rw [two_arg hv, h0, h1]
  exact (refCeil_any a b w ha.1 ha.2 hb.1 hb.2).mono fun e w' ⟨h1, h2⟩ => ⟨h1, by subst h2; exact Below.refl _ _⟩
theorem refCeil_okV (a b : Int) (ha : -9223372036854775808 ≤ a ∧ a ≤ 9223372036854775807) (hb : 1 ≤ b ∧ b ≤ 9223372036854775807) : OkV Try.prog 13 [.c (xI a), .c (xI b)] [] (vI (Pl.cdiv a b)) [] := refCeil_ok a b ha hb
theorem ceilDiv_ok (a b : Int) (ha : -9223372036854775808 ≤ a ∧ a ≤ 9223372036854775807) (hb : 1 ≤ b ∧ b ≤ 9223372036854775807) : Ok Try.prog 52 [i64 a, i64 b] [] (.tup [.c (.f (.v (.int .i64 (Pl.cdiv a b)))), .c (.f (.v (.int .i64 0)))]) [] := by
  refine ok_old _ Try.func52 (by kernel_rfl) (by kernel_rfl) rfl rfl fun w κ ρ vals hv hr => ⟨_, plain_2 plain_i plain_i rfl rfl, ?_⟩
  have hv : vals.size = 2 := hv
  have h0 : vals[0] = .int .i64 a := (repF_v.1 (hr 0 (by simp) (by omega) (.slot 0))).1
  have h1 : vals[1] = .int .i64 b := (repF_v.1 (hr 1 (by simp) (by omega) (.slot 0))).1
  rw [two_arg hv, h0, h1]
  exact (ceilDiv_any a b w ha.1 ha.2 hb.1 hb.2).mono fun e w' ⟨h1, h2⟩ => ⟨h1, by subst h2; exact Below.refl _ _⟩
theorem ceilDiv_okV (a b : Int) (ha : -9223372036854775808 ≤ a ∧ a ≤ 9223372036854775807) (hb : 1 ≤ b ∧ b ≤ 9223372036854775807) : OkV Try.prog 52 [.c (xI a), .c (xI b)] [] (.tup [.c (xI (Pl.cdiv a b)), .c (xI 0)]) [] := ceilDiv_ok a b ha hb
theorem sqrt_ok (a : Int) (ha : 0 ≤ a ∧ a ≤ 9223372036854775807) : Ok Try.prog 79 [i64 a] [] (i64 (Pl.isqrt a.toNat : Nat)) [] := by
  refine ok_old _ Try.func79 (by kernel_rfl) (by kernel_rfl) rfl rfl fun w κ ρ vals hv hr => ⟨_, plain_i, ?_⟩
  have hv : vals.size = 1 := hv
  have h0 : vals[0] = .int .i64 a := (repF_v.1 (hr 0 (by simp) (by omega) (.slot 0))).1
  rw [one_arg hv, h0]
  obtain ⟨m, rfl⟩ := Int.eq_ofNat_of_zero_le ha.1
  exact (sqrt_any m w ha.2).mono fun e w' ⟨h1, h2⟩ => ⟨h1, by subst h2; exact Below.refl _ _⟩
theorem sqrt_okV (a : Int) (ha : 0 ≤ a ∧ a ≤ 9223372036854775807) : OkV Try.prog 79 [.c (xI a)] [] (vI (Pl.isqrt a.toNat : Nat)) [] := sqrt_ok a ha
end Go.Proofs.Ytbpeakgihhdocaa.Av
namespace Go.Proofs.Ytbpeakgihhdocaa.Av
set_option linter.unusedVariables false
set_option linter.unusedSimpArgs false
set_option maxRecDepth 4000
set_option maxHeartbeats 4000000
def speedL (cs : List (Int × Int)) (s : Int) (l sp ac br : Int) : List Int := if badRun cs s l sp ac br = 0 then row (cs.length - s.toNat + 1) (fun j => ((spd cs s.toNat l.toNat sp ac br j : Nat) : Int)) else []
def timeL (cs : List (Int × Int)) (s : Int) (l sp ac br : Int) : List Int := if badRun cs s l sp ac br = 0 then row (cs.length - s.toNat + 1) (tim cs s.toNat l.toNat sp ac br) else []
theorem speeds_ok (cs : List (Int × Int)) (start : Int) (nm : ByteArray) (l sp ac br : Int) (hl : cs.length ≤ 4611686018427387904) : OkV Try.prog 51 [.c (rCell cs), .c (xI start), vS5 nm l sp ac br] [] (.tup [.c (rInt (speedL cs start l sp ac br)), .c (xI (badRun cs start l sp ac br))]) [] := by
  have hC := checkRun_ok cs start nm l sp ac br hl
  unfold speedL
  by_cases h : badRun cs start l sp ac br = 0
  · obtain ⟨hc, hn, hall, h0, h2⟩ := bad_zero h
    obtain ⟨l1, l2, l3, l4, l5, l6, l7, l8⟩ := chk_of hc
    obtain ⟨s, rfl⟩ := Int.eq_ofNat_of_zero_le h0
    have hS := squares_ok cs s nm l sp ac br h
    rw [h] at hC ⊢
    rw [if_pos rfl]
    simp only [Int.toNat_natCast]
    refine X_fnP mixedX Try.func51 rfl (by kernel_rfl) (Nat.le_of_ble_eq_true (by kernel_rfl)) (by kernel_rfl) rfl rfl ?_
    simp only [sl0, Nat.zero_add, Nat.reduceAdd]
    repeat' (first
      |with_reducible (first|refine q_and ?_ ?_|exact True.intro|exact TkEq.nil _|refine Red.o (by constructor) ?_|refine blockK_o' rfl ?_|refine LoopX_e' rfl ?_|assumption)
      |((with_reducible apply q_call);first|refine X_pure (hC) rfl ?_|refine X_call [] (hS) rfl rfl rfl rfl rfl rfl rfl rfl rfl rfl rfl rfl rfl ?_)
      |((with_reducible apply q_CI);intro hbq;(try simp only [bq] at hbq);(try (exfalso;omega)))
      |refine Rex.o (by (with_reducible constructor);apply Eq.refl) ?_
      |(intro (hgq : (_ : Bool) = true);(try simp only [bq] at hgq))
      |(intro (hgq : (_ : Bool) = false);(try simp only [bq] at hgq))
      |((with_reducible apply q_VOk);exact fun _ => ⟨rfl,rfl⟩)|(intro _;exact rfl)|((with_reducible apply q_CRB);kernel_rfl)|((with_reducible apply q_bt);simp only [bq])|((with_reducible apply q_eqN);rfl)|((with_reducible apply q_FE);exact rfl)|with_reducible (first|exact isByte_wrap _|exact isByte_nat _)|(simp only [hgq,bq];done)|omega|(dsimp only;omega))
    clear hC hS
    refine W_loopS (fun i : Nat => SS [sC 9 (.c (.arr 2 0 (cs.length - s + 1) (cs.length - s + 1))), sC 23 (.c (.arr 2 0 (cs.length - s + 1) (cs.length - s + 1))), sI 24 (cs.length - s + 1 : Nat), sI 25 i] [none, none, bInt (row (cs.length - s + 1) fun j => if j < i then ((spd cs s l.toNat sp ac br j : Nat) : Int) else sqW cs s l.toNat sp ac br j)]) (fun i => i ≤ cs.length - s + 1) (fun i => cs.length - s + 1 - i) 0 ?_ (by omega) ?_
    ·
      refine X_weak rfl rfl rfl ?_ ?_ <;> repeat' (first|with_reducible (first|refine Wk.o (by constructor) ?_|refine q_and ?_ ?_|exact True.intro)|refine q_AgS rfl ?_ ?_|exact CLe.nil_tipS|exact CLe.nil_rowS|refine HLe.cells ?_ ?_|refine HLe.els ?_ ?_|refine SLe.cons ?_ ?_|exact (rfl : known _ = _)|with_reducible rfl|omega)
      all_goals rfl
    intro i hi
    have a6 := row_len (cs.length - s + 1) fun j => if j < i then ((spd cs s l.toNat sp ac br j : Nat) : Int) else sqW cs s l.toNat sp ac br j
    have a4 := sqW_range (start := s) (l := l.toNat) l3 l4 l5 l6 l7 l8 hall i
    by_cases hil : i < cs.length - s + 1
    · have a5 : (row (cs.length - s + 1) fun j => if j < i then ((spd cs s l.toNat sp ac br j : Nat) : Int) else sqW cs s l.toNat sp ac br j).getD (i : Int).toNat 0 = sqW cs s l.toNat sp ac br i := by
        rw [Int.toNat_natCast, row_get hil, if_neg (by omega)]
      have hQ := sqrt_okV ((row (cs.length - s + 1) fun j => if j < i then ((spd cs s l.toNat sp ac br j : Nat) : Int) else sqW cs s l.toNat sp ac br j).getD (i : Int).toNat 0) (by rw [a5]; omega)
      repeat' (first
        |with_reducible (first|refine q_and ?_ ?_|exact True.intro|exact TkEq.nil _|refine Red.o (by constructor) ?_|refine blockK_o' rfl ?_|refine LoopX_e' rfl ?_|assumption)
        |((with_reducible apply q_call);refine X_pure (hQ) rfl ?_)
        |((with_reducible apply q_CI);intro hbq;(try simp only [bq] at hbq);(try (exfalso;omega)))
        |refine Rex.o (by (with_reducible constructor);apply Eq.refl) ?_
        |(intro (hgq : (_ : Bool) = true);(try simp only [bq] at hgq))
        |(intro (hgq : (_ : Bool) = false);(try simp only [bq] at hgq))
        |((with_reducible apply q_VOk);exact fun _ => ⟨rfl,rfl⟩)|(intro _;exact rfl)|((with_reducible apply q_CRB);kernel_rfl)|((with_reducible apply q_bt);simp only [bq])|((with_reducible apply q_eqN);rfl)|((with_reducible apply q_FE);exact rfl)|with_reducible (first|exact isByte_wrap _|exact isByte_nat _)|(simp only [hgq,bq];done)|omega|(dsimp only;omega))
      · rfl
      ·
        refine LoopK_n (i + 1) ?_ ((by omega)) (by (try dsimp only); omega)
        refine X_weak rfl rfl rfl ?_ ?_ <;> repeat' (first|with_reducible (first|refine Wk.o (by constructor) ?_|refine q_and ?_ ?_|exact True.intro)|refine q_AgS rfl ?_ ?_|exact CLe.nil_tipS|exact CLe.nil_rowS|refine HLe.cells ?_ ?_|refine HLe.els ?_ ?_|refine SLe.cons ?_ ?_|exact (rfl : known _ = _)|with_reducible rfl|omega)
        all_goals (
          rw [a5, Int.toNat_natCast]
          refine row_set (i := i) ?_ fun j hj hne => ?_
          · rw [if_pos (by omega)]; rfl
          · by_cases hji : j < i
            · rw [if_pos hji, if_pos (by omega)]
            · rw [if_neg hji, if_neg (by omega)])
    · have hr : row (cs.length - s + 1) (fun j => if j < i then ((spd cs s l.toNat sp ac br j : Nat) : Int) else sqW cs s l.toNat sp ac br j) = row (cs.length - s + 1) fun j => ((spd cs s l.toNat sp ac br j : Nat) : Int) := row_ext fun j hj => if_pos (by omega)
      repeat' (first
        |with_reducible (first|refine q_and ?_ ?_|exact True.intro|exact TkEq.nil _|refine Red.o (by constructor) ?_|refine blockK_o' rfl ?_|refine LoopX_e' rfl ?_|assumption)
        |((with_reducible apply q_CI);intro hbq;(try simp only [bq] at hbq);(try (exfalso;omega)))
        |refine Rex.o (by (with_reducible constructor);apply Eq.refl) ?_
        |(intro (hgq : (_ : Bool) = true);(try simp only [bq] at hgq))
        |(intro (hgq : (_ : Bool) = false);(try simp only [bq] at hgq))
        |((with_reducible apply q_VOk);exact fun _ => ⟨rfl,rfl⟩)|(intro _;exact rfl)|((with_reducible apply q_CRB);kernel_rfl)|((with_reducible apply q_bt);simp only [bq])|((with_reducible apply q_eqN);rfl)|((with_reducible apply q_FE);exact rfl)|with_reducible (first|exact isByte_wrap _|exact isByte_nat _)|(simp only [hgq,bq];done)|omega|(dsimp only;omega))
      rw [hr]; rfl
  · rw [if_neg h]
    refine X_fn mixedX Try.func51 rfl (by kernel_rfl) (Nat.le_of_ble_eq_true (by kernel_rfl)) (by kernel_rfl) rfl rfl (Nat.le_of_ble_eq_true rfl) rfl rfl ?_
    simp only [sl0, Nat.zero_add, Nat.reduceAdd]
    repeat' (first
      |with_reducible (first|refine q_and ?_ ?_|exact True.intro|exact TkEq.nil _|refine Red.o (by constructor) ?_|refine blockK_o' rfl ?_|refine LoopX_e' rfl ?_|assumption)
      |((with_reducible apply q_call);refine X_pure (hC) rfl ?_)
      |((with_reducible apply q_CI);intro hbq;(try simp only [bq] at hbq);(try (exfalso;omega)))
      |refine Rex.o (by (with_reducible constructor);apply Eq.refl) ?_
      |(intro (hgq : (_ : Bool) = true);(try simp only [bq] at hgq))
      |(intro (hgq : (_ : Bool) = false);(try simp only [bq] at hgq))
      |((with_reducible apply q_VOk);exact fun _ => ⟨rfl,rfl⟩)|(intro _;exact rfl)|((with_reducible apply q_CRB);kernel_rfl)|((with_reducible apply q_bt);simp only [bq])|((with_reducible apply q_eqN);rfl)|((with_reducible apply q_FE);exact rfl)|with_reducible (first|exact isByte_wrap _|exact isByte_nat _)|(simp only [hgq,bq];done)|omega|(dsimp only;omega))
    · rfl
theorem times_ok (cs : List (Int × Int)) (start : Int) (nm : ByteArray) (l sp ac br : Int) (hl : cs.length ≤ 4611686018427387904) : OkV Try.prog 32 [.c (rCell cs), .c (xI start), vS5 nm l sp ac br] [] (.tup [.c (rInt (timeL cs start l sp ac br)), .c (xI (badRun cs start l sp ac br))]) [] := by
  have hC := speeds_ok cs start nm l sp ac br hl
  unfold timeL
  by_cases h : badRun cs start l sp ac br = 0
  · obtain ⟨hc, hn, hall, h0, h2⟩ := bad_zero h
    obtain ⟨l1, l2, l3, l4, l5, l6, l7, l8⟩ := chk_of hc
    obtain ⟨s, rfl⟩ := Int.eq_ofNat_of_zero_le h0
    unfold speedL at hC
    rw [h, if_pos rfl] at hC
    rw [h, if_pos rfl]
    simp only [Int.toNat_natCast] at hC ⊢
    have b6 := row_len (cs.length - s + 1) fun j => ((spd cs s l.toNat sp ac br j : Nat) : Int)
    have b5 : ∀ j, j < cs.length - s + 1 → (row (cs.length - s + 1) fun j => ((spd cs s l.toNat sp ac br j : Nat) : Int)).getD j 0 = spd cs s l.toNat sp ac br j := fun j hj => row_get hj
    generalize (row (cs.length - s + 1) fun j => ((spd cs s l.toNat sp ac br j : Nat) : Int)) = vs at hC b6 b5
    refine X_fnP mixedX Try.func32 rfl (by kernel_rfl) (Nat.le_of_ble_eq_true (by kernel_rfl)) (by kernel_rfl) rfl rfl ?_
    simp only [sl0, Nat.zero_add, Nat.reduceAdd]
    repeat' (first
      |with_reducible (first|refine q_and ?_ ?_|exact True.intro|exact TkEq.nil _|refine Red.o (by constructor) ?_|refine blockK_o' rfl ?_|refine LoopX_e' rfl ?_|assumption)
      |((with_reducible apply q_call);refine X_pure (hC) rfl ?_)
      |((with_reducible apply q_CI);intro hbq;(try simp only [bq] at hbq);(try (exfalso;omega)))
      |refine Rex.o (by (with_reducible constructor);apply Eq.refl) ?_
      |(intro (hgq : (_ : Bool) = true);(try simp only [bq] at hgq))
      |(intro (hgq : (_ : Bool) = false);(try simp only [bq] at hgq))
      |((with_reducible apply q_VOk);exact fun _ => ⟨rfl,rfl⟩)|(intro _;exact rfl)|((with_reducible apply q_CRB);kernel_rfl)|((with_reducible apply q_bt);simp only [bq])|((with_reducible apply q_eqN);rfl)|((with_reducible apply q_FE);exact rfl)|with_reducible (first|exact isByte_wrap _|exact isByte_nat _)|(simp only [hgq,bq];done)|omega|(dsimp only;omega))
    clear hC
    refine W_loopS (fun i : Nat => SS [sC 8 (rInt vs), sC 10 (.c (.arr 1 0 (cs.length - s + 1) (cs.length - s + 1))), sI 11 (i + 1 : Nat)] [none, bInt (row (cs.length - s + 1) fun j => if j ≤ i then tim cs s l.toNat sp ac br j else 0)]) (fun i => i ≤ cs.length - s) (fun i => cs.length - s - i) 0 ?_ (by omega) ?_
    ·
      refine X_weak rfl rfl rfl ?_ ?_ <;> repeat' (first|with_reducible (first|refine Wk.o (by constructor) ?_|refine q_and ?_ ?_|exact True.intro)|refine q_AgS rfl ?_ ?_|exact CLe.nil_tipS|exact CLe.nil_rowS|refine HLe.cells ?_ ?_|refine HLe.els ?_ ?_|refine SLe.cons ?_ ?_|exact (rfl : known _ = _)|with_reducible rfl|omega)
      all_goals first
        | (rw [b6]; rfl)
        | (
          rw [b6, Int.toNat_natCast, row_zero]
          refine row_ext fun j hj => ?_
          by_cases hj0 : j ≤ 0
          · rw [if_pos hj0, show j = 0 by omega]; rfl
          · rw [if_neg hj0])
    intro i hi
    have a6 := row_len (cs.length - s + 1) fun j => if j ≤ i then tim cs s l.toNat sp ac br j else 0
    by_cases hil : i < cs.length - s
    · have e1 : (((i + 1 : Nat) : Int) - 1).toNat = i := by omega
      have e2 : ((i + 1 : Nat) : Int).toNat = i + 1 := by omega
      have a5 : (row (cs.length - s + 1) fun j => if j ≤ i then tim cs s l.toNat sp ac br j else 0).getD (((i + 1 : Nat) : Int) - 1).toNat 0 = tim cs s l.toNat sp ac br i := by
        rw [e1, row_get (by omega), if_pos (Nat.le_refl _)]
      have a4 := tim_range (start := s) (l := l.toNat) l3 l4 l5 l6 l7 l8 hall (by omega) i (by omega)
      have a7 := spd_sum (start := s) (l := l.toNat) l3 l4 l5 l6 l7 l8 hall (by omega) i hil
      have a8 := step_range (start := s) (l := l.toNat) l3 l4 l5 l6 l7 l8 hall (by omega) i hil
      have c1 := b5 i (by omega)
      have c2 := b5 (i + 1) (by omega)
      have c3 : vs.getD (((i + 1 : Nat) : Int) - 1).toNat 0 = spd cs s l.toNat sp ac br i := by rw [e1, c1]
      have c4 : vs.getD ((i + 1 : Nat) : Int).toNat 0 = spd cs s l.toNat sp ac br (i + 1) := by rw [e2, c2]
      have c5 : Pl.cdiv 20000000 (vs.getD (((i + 1 : Nat) : Int) - 1).toNat 0 + vs.getD ((i + 1 : Nat) : Int).toNat 0) = Pl.cdiv 20000000 ((spd cs s l.toNat sp ac br i : Int) + spd cs s l.toNat sp ac br (i + 1)) := by rw [c3, c4]
      rw [← c5] at a8
      have hQ := ceilDiv_okV 20000000 (vs.getD (((i + 1 : Nat) : Int) - 1).toNat 0 + vs.getD ((i + 1 : Nat) : Int).toNat 0) (by omega) (by rw [c3, c4]; omega)
      repeat' (first
        |with_reducible (first|refine q_and ?_ ?_|exact True.intro|exact TkEq.nil _|refine Red.o (by constructor) ?_|refine blockK_o' rfl ?_|refine LoopX_e' rfl ?_|assumption)
        |((with_reducible apply q_call);refine X_pure (hQ) rfl ?_)
        |((with_reducible apply q_CI);intro hbq;(try simp only [bq] at hbq);(try (exfalso;omega)))
        |refine Rex.o (by (with_reducible constructor);apply Eq.refl) ?_
        |(intro (hgq : (_ : Bool) = true);(try simp only [bq] at hgq))
        |(intro (hgq : (_ : Bool) = false);(try simp only [bq] at hgq))
        |((with_reducible apply q_VOk);exact fun _ => ⟨rfl,rfl⟩)|(intro _;exact rfl)|((with_reducible apply q_CRB);kernel_rfl)|((with_reducible apply q_bt);simp only [bq])|((with_reducible apply q_eqN);rfl)|((with_reducible apply q_FE);exact rfl)|with_reducible (first|exact isByte_wrap _|exact isByte_nat _)|(simp only [hgq,bq];done)|omega|(dsimp only;omega))
      · rfl
      ·
        refine LoopK_n (i + 1) ?_ ((by omega)) (by (try dsimp only); omega)
        refine X_weak rfl rfl rfl ?_ ?_ <;> repeat' (first|with_reducible (first|refine Wk.o (by constructor) ?_|refine q_and ?_ ?_|exact True.intro)|refine q_AgS rfl ?_ ?_|exact CLe.nil_tipS|exact CLe.nil_rowS|refine HLe.cells ?_ ?_|refine HLe.els ?_ ?_|refine SLe.cons ?_ ?_|exact (rfl : known _ = _)|with_reducible rfl|omega)
        all_goals (
          rw [a5, c5, e2]
          refine row_set (i := i + 1) ?_ fun j hj hne => ?_
          · rw [if_pos (by omega)]; rfl
          · by_cases hji : j ≤ i
            · rw [if_pos hji, if_pos (by omega)]
            · rw [if_neg hji, if_neg (by omega)])
    · have hr : row (cs.length - s + 1) (fun j => if j ≤ i then tim cs s l.toNat sp ac br j else 0) = row (cs.length - s + 1) (tim cs s l.toNat sp ac br) := row_ext fun j hj => if_pos (by omega)
      repeat' (first
        |with_reducible (first|refine q_and ?_ ?_|exact True.intro|exact TkEq.nil _|refine Red.o (by constructor) ?_|refine blockK_o' rfl ?_|refine LoopX_e' rfl ?_|assumption)
        |((with_reducible apply q_CI);intro hbq;(try simp only [bq] at hbq);(try (exfalso;omega)))
        |refine Rex.o (by (with_reducible constructor);apply Eq.refl) ?_
        |(intro (hgq : (_ : Bool) = true);(try simp only [bq] at hgq))
        |(intro (hgq : (_ : Bool) = false);(try simp only [bq] at hgq))
        |((with_reducible apply q_VOk);exact fun _ => ⟨rfl,rfl⟩)|(intro _;exact rfl)|((with_reducible apply q_CRB);kernel_rfl)|((with_reducible apply q_bt);simp only [bq])|((with_reducible apply q_eqN);rfl)|((with_reducible apply q_FE);exact rfl)|with_reducible (first|exact isByte_wrap _|exact isByte_nat _)|(simp only [hgq,bq];done)|omega|(dsimp only;omega))
      rw [hr]; rfl
  · unfold speedL at hC
    rw [if_neg h] at hC ⊢
    refine X_fn mixedX Try.func32 rfl (by kernel_rfl) (Nat.le_of_ble_eq_true (by kernel_rfl)) (by kernel_rfl) rfl rfl (Nat.le_of_ble_eq_true rfl) rfl rfl ?_
    simp only [sl0, Nat.zero_add, Nat.reduceAdd]
    repeat' (first
      |with_reducible (first|refine q_and ?_ ?_|exact True.intro|exact TkEq.nil _|refine Red.o (by constructor) ?_|refine blockK_o' rfl ?_|refine LoopX_e' rfl ?_|assumption)
      |((with_reducible apply q_call);refine X_pure (hC) rfl ?_)
      |((with_reducible apply q_CI);intro hbq;(try simp only [bq] at hbq);(try (exfalso;omega)))
      |refine Rex.o (by (with_reducible constructor);apply Eq.refl) ?_
      |(intro (hgq : (_ : Bool) = true);(try simp only [bq] at hgq))
      |(intro (hgq : (_ : Bool) = false);(try simp only [bq] at hgq))
      |((with_reducible apply q_VOk);exact fun _ => ⟨rfl,rfl⟩)|(intro _;exact rfl)|((with_reducible apply q_CRB);kernel_rfl)|((with_reducible apply q_bt);simp only [bq])|((with_reducible apply q_eqN);rfl)|((with_reducible apply q_FE);exact rfl)|with_reducible (first|exact isByte_wrap _|exact isByte_nat _)|(simp only [hgq,bq];done)|omega|(dsimp only;omega))
    · rfl
end Go.Proofs.Ytbpeakgihhdocaa.Av
namespace Go.Proofs.Ytbpeakgihhdocaa.Av
set_option linter.unusedVariables false
set_option linter.unusedSimpArgs false
set_option maxRecDepth 4000
set_option maxHeartbeats 4000000
theorem inR_ok (n lo hi : Int) : OkV Try.prog 54 [.c (xI n), .c (xI lo), .c (xI hi)] [] (vB (decide (lo ≤ n) && decide (n ≤ hi))) [] := by
  refine X_fn mixedX Try.func54 rfl (by kernel_rfl) (Nat.le_of_ble_eq_true (by kernel_rfl)) (by kernel_rfl) rfl rfl (Nat.le_of_ble_eq_true rfl) rfl rfl ?_
  simp only [sl0, Nat.zero_add, Nat.reduceAdd]
  repeat' (first
    |with_reducible (first|refine q_and ?_ ?_|exact True.intro|exact TkEq.nil _|refine Red.o (by constructor) ?_|refine blockK_o' rfl ?_|refine LoopX_e' rfl ?_|assumption)
    |((with_reducible apply q_CI);intro hbq;(try simp only [bq] at hbq);(try (exfalso;omega)))
    |refine Rex.o (by (with_reducible constructor);apply Eq.refl) ?_
    |(intro (hgq : (_ : Bool) = true);(try simp only [bq] at hgq))
    |(intro (hgq : (_ : Bool) = false);(try simp only [bq] at hgq))
    |((with_reducible apply q_VOk);exact fun _ => ⟨rfl,rfl⟩)|(intro _;exact rfl)|((with_reducible apply q_CRB);kernel_rfl)|((with_reducible apply q_bt);simp only [bq])|((with_reducible apply q_eqN);rfl)|((with_reducible apply q_FE);exact rfl)|with_reducible (first|exact isByte_wrap _|exact isByte_nat _)|(simp only [hgq,bq];done)|omega|(dsimp only;omega))
  repeat' (first|with_reducible (first|refine Wk.o (by constructor) ?_|refine q_and ?_ ?_|exact True.intro)|refine VEq.c ?_|refine VEq.agg ?_|refine VEq.tup ?_|refine TkEq.cells ?_ ?_|refine TkEq.els ?_ ?_|refine SEqL.cons ?_ ?_|refine TEqL.agg ?_ ?_|refine CEq.rows ?_|refine CEq.int ?_|rfl|omega)
theorem chk_b4 (l sp ac br : Int) : chkB l sp ac br = ((decide (1 ≤ l) && decide (l ≤ 40)) && (decide (1000 ≤ sp) && decide (sp ≤ 100000)) && (decide (100 ≤ ac) && decide (ac ≤ 2000)) && (decide (100 ≤ br) && decide (br ≤ 2000))) := by
  rw [Bool.eq_iff_iff]
  simp [chkB, and_assoc]
theorem chkStock_ok (nm : ByteArray) (l sp ac br : Int) : OkV Try.prog 48 [vS5 nm l sp ac br] [] (vB (chkB l sp ac br)) [] := by
  have h1 := inR_ok l 1 40
  have h2 := inR_ok sp 1000 100000
  have h3 := inR_ok ac 100 2000
  have h4 := inR_ok br 100 2000
  rw [chk_b4]
  refine X_fn mixedX Try.func48 rfl (by kernel_rfl) (Nat.le_of_ble_eq_true (by kernel_rfl)) (by kernel_rfl) rfl rfl (Nat.le_of_ble_eq_true rfl) rfl rfl ?_
  simp only [sl0, Nat.zero_add, Nat.reduceAdd]
  repeat' (first
    |with_reducible (first|refine q_and ?_ ?_|exact True.intro|exact TkEq.nil _|refine Red.o (by constructor) ?_|refine blockK_o' rfl ?_|refine LoopX_e' rfl ?_|assumption)
    |((with_reducible apply q_call);refine X_pure (h1) rfl ?_)
    |((with_reducible apply q_callG);refine X_pureG ((fun _ => h2)) rfl ?_ ?_)
    |((with_reducible apply q_callG);refine X_pureG ((fun _ => h3)) rfl ?_ ?_)
    |((with_reducible apply q_callG);refine X_pureG ((fun _ => h4)) rfl ?_ ?_)
    |((with_reducible apply q_CI);intro hbq;(try simp only [bq] at hbq);(try (exfalso;omega)))
    |refine Rex.o (by (with_reducible constructor);apply Eq.refl) ?_
    |(intro (hgq : (_ : Bool) = true);(try simp only [bq] at hgq))
    |(intro (hgq : (_ : Bool) = false);(try simp only [bq] at hgq))
    |((with_reducible apply q_VOk);exact fun _ => ⟨rfl,rfl⟩)|(intro _;exact rfl)|((with_reducible apply q_CRB);kernel_rfl)|((with_reducible apply q_bt);simp only [bq])|((with_reducible apply q_eqN);rfl)|((with_reducible apply q_FE);exact rfl)|with_reducible (first|exact isByte_wrap _|exact isByte_nat _)|(simp only [hgq,bq];done)|omega|(dsimp only;omega))
  repeat' (first|with_reducible (first|refine Wk.o (by constructor) ?_|refine q_and ?_ ?_|exact True.intro)|refine VEq.c ?_|refine VEq.agg ?_|refine VEq.tup ?_|refine TkEq.cells ?_ ?_|refine TkEq.els ?_ ?_|refine SEqL.cons ?_ ?_|refine TEqL.agg ?_ ?_|refine CEq.rows ?_|refine CEq.int ?_|rfl|omega)
end Go.Proofs.Ytbpeakgihhdocaa.Av
namespace Go.Proofs.Ytbpeakgihhdocaa.Av
set_option linter.unusedVariables false
set_option linter.unusedSimpArgs false
set_option maxRecDepth 4000
set_option maxHeartbeats 4000000
abbrev vR2 (st : List Stp) (ov : Int) : SV := .agg [rStp st, xI ov]
def tight (L : Lay) (l : Int) (s : Stp) : Bool := decide ((secA L s).len < max 2 l)
def fitErr (L : Lay) (r : Rte) (l sp ac br : Int) : Int := if celErr L r ≠ 0 then celErr L r else if chkB l sp ac br = false then 1 else if (trv r).any (tight L l) = true then 12 else 0
section
variable {L : Lay} {r : Rte} {l sp ac br : Int}
theorem fit_c (h : ¬ celErr L r = 0) : fitErr L r l sp ac br = celErr L r := if_pos h
theorem fit_1 (h : celErr L r = 0) (h2 : chkB l sp ac br = false) : fitErr L r l sp ac br = 1 := by unfold fitErr; rw [if_neg (by simpa using h), if_pos h2]
theorem fit_12 (h : celErr L r = 0) (h2 : chkB l sp ac br = true) (h3 : (trv r).any (tight L l) = true) : fitErr L r l sp ac br = 12 := by unfold fitErr; rw [if_neg (by simpa using h), if_neg (by rw [h2]; decide), if_pos h3]
theorem fit_0 (h : celErr L r = 0) (h2 : chkB l sp ac br = true) (h3 : (trv r).any (tight L l) = false) : fitErr L r l sp ac br = 0 := by unfold fitErr; rw [if_neg (by simpa using h), if_neg (by rw [h2]; decide), if_neg (by rw [h3]; decide)]
theorem cel_rte (h : celErr L r = 0) : rteErr L r = 0 := by
  unfold celErr at h
  split at h
  · exact h
  · rename_i h2; simpa using h2
theorem trv_len (h : RteOk L r) : ((trv r).length : Int) = r.st.length - r.ov := by
  have := h.ov0; have := h.two; have := h.ov
  unfold trv; rw [List.length_take]; omega
theorem trv_at (h : RteOk L r) {i : Nat} (hi : (i : Int) < r.st.length - r.ov) : (trv r).getD i st0 = r.st.getD i st0 := by
  unfold trv
  rw [List.getD_eq_getElem?_getD, List.getD_eq_getElem?_getD, List.getElem?_take_of_lt (by omega)]
theorem any_at {l : List Stp} {p : Stp → Bool} {i : Nat} (hi : i < l.length) (h : p (l.getD i st0) = true) : l.any p = true := by
  rw [List.getD_eq_getElem?_getD, List.getElem?_eq_getElem hi] at h
  exact List.any_eq_true.2 ⟨_, List.getElem_mem hi, h⟩
theorem any_not {l : List Stp} {p : Stp → Bool} (h : ∀ j, j < l.length → p (l.getD j st0) = false) : l.any p = false := by
  rw [Bool.eq_false_iff]
  intro ha
  obtain ⟨x, hx, h1⟩ := List.any_eq_true.1 ha
  obtain ⟨i, hi, rfl⟩ := List.mem_iff_getElem.1 hx
  have := h i hi
  rw [List.getD_eq_getElem?_getD, List.getElem?_eq_getElem hi] at this
  rw [show (some l[i]).getD st0 = l[i] from rfl] at this
  rw [this] at h1; cases h1
end
theorem travelled_ok (st : List Stp) (ov : Int) (hl : st.length ≤ 4611686018427387904) (h0 : 0 ≤ ov ∧ ov ≤ st.length) : OkV Try.prog 33 [vR2 st ov] [] (.c (rStp (trv ⟨st, ov⟩))) [] := by
  unfold trv
  refine X_fn mixedX Try.func33 rfl (by kernel_rfl) (Nat.le_of_ble_eq_true (by kernel_rfl)) (by kernel_rfl) rfl rfl (Nat.le_of_ble_eq_true rfl) rfl rfl ?_
  simp only [sl0, Nat.zero_add, Nat.reduceAdd]
  repeat' (first
    |with_reducible (first|refine q_and ?_ ?_|exact True.intro|exact TkEq.nil _|refine Red.o (by constructor) ?_|refine blockK_o' rfl ?_|refine LoopX_e' rfl ?_|assumption)
    |((with_reducible apply q_CI);intro hbq;(try simp only [bq] at hbq);(try (exfalso;omega)))
    |refine Rex.o (by (with_reducible constructor);apply Eq.refl) ?_
    |(intro (hgq : (_ : Bool) = true);(try simp only [bq] at hgq))
    |(intro (hgq : (_ : Bool) = false);(try simp only [bq] at hgq))
    |((with_reducible apply q_VOk);exact fun _ => ⟨rfl,rfl⟩)|(intro _;exact rfl)|((with_reducible apply q_CRB);kernel_rfl)|((with_reducible apply q_bt);simp only [bq])|((with_reducible apply q_eqN);rfl)|((with_reducible apply q_FE);exact rfl)|with_reducible (first|exact isByte_wrap _|exact isByte_nat _)|(simp only [hgq,bq];done)|omega|(dsimp only;omega))
  repeat' (first|with_reducible (first|refine Wk.o (by constructor) ?_|refine q_and ?_ ?_|exact True.intro)|refine VEq.c ?_|refine VEq.agg ?_|refine VEq.tup ?_|refine TkEq.cells ?_ ?_|refine TkEq.els ?_ ?_|refine SEqL.cons ?_ ?_|refine TEqL.agg ?_ ?_|refine CEq.rows ?_|refine CEq.int ?_|rfl|omega)
theorem fit_ok (L : Lay) (hL : LayFits L) (st : List Stp) (ov : Int) (hl : st.length ≤ 4611686018427387904) (ho : -9223372036854775807 ≤ ov ∧ ov ≤ 9223372036854775807) (nm : ByteArray) (l sp ac br : Int) : OkV Try.prog 31 [vLay L, vR2 st ov, vS5 nm l sp ac br] [] (.tup [.agg [rCell (if fitErr L ⟨st, ov⟩ l sp ac br = 0 then celL L (trv ⟨st, ov⟩) else []), xI (if fitErr L ⟨st, ov⟩ l sp ac br = 0 then celOne L ⟨st, ov⟩ else 0)], .c (xI (fitErr L ⟨st, ov⟩ l sp ac br))]) [] := by
  have hC := cells_ok L hL st ov hl ho
  have hK := chk_ok nm l sp ac br
  by_cases hc : celErr L ⟨st, ov⟩ = 0
  · have hr := rte_of (cel_rte hc)
    have hT := travelled_ok st ov hl ⟨hr.ov0, by have := hr.two; simp only at this; omega⟩
    have htl := trv_len hr
    have hr1 := hr.ov0
    have hr3 := hr.len
    simp only at hr1 hr3
    have hV := valid_of hr.lay
    have hn3 := hV.n3
    have hok := all_take hr.ok ((st.length : Int) - ov).toNat
    change (trv ⟨st, ov⟩).all (Stp.ok L) = true at hok
    unfold celOut at hC
    rw [hc, if_pos rfl] at hC
    generalize hts : trv ⟨st, ov⟩ = ts at *
    simp only at htl
    generalize celOne L ⟨st, ov⟩ = one at hC ⊢
    unfold vLay at hC ⊢
    refine X_fn mixedX Try.func31 rfl (by kernel_rfl) (Nat.le_of_ble_eq_true (by kernel_rfl)) (by kernel_rfl) rfl rfl (Nat.le_of_ble_eq_true rfl) rfl rfl ?_
    simp only [sl0, Nat.zero_add, Nat.reduceAdd]
    repeat' (first
      |with_reducible (first|refine q_and ?_ ?_|exact True.intro|exact TkEq.nil _|refine Red.o (by constructor) ?_|refine blockK_o' rfl ?_|refine LoopX_e' rfl ?_|assumption)
      |((with_reducible apply q_call);first|refine X_pure (hC) rfl ?_|refine X_pure (hK) rfl ?_|refine X_pure (hT) rfl ?_)
      |((with_reducible apply q_CI);intro hbq;(try simp only [bq] at hbq);(try (exfalso;omega)))
      |refine Rex.o (by (with_reducible constructor);apply Eq.refl) ?_
      |(intro (hgq : (_ : Bool) = true);(try simp only [bq] at hgq))
      |(intro (hgq : (_ : Bool) = false);(try simp only [bq] at hgq))
      |((with_reducible apply q_VOk);exact fun _ => ⟨rfl,rfl⟩)|(intro _;exact rfl)|((with_reducible apply q_CRB);kernel_rfl)|((with_reducible apply q_bt);simp only [bq])|((with_reducible apply q_eqN);rfl)|((with_reducible apply q_FE);exact rfl)|with_reducible (first|exact isByte_wrap _|exact isByte_nat _)|(simp only [hgq,bq];done)|omega|(dsimp only;omega))
    · rw [fit_1 hc hbq]; rfl
    have hb' := hbq
    clear hC hK hT
    have hq := chk_of hbq
    refine W_loopS (fun i : Nat => SS [sC 3 (pB 0), sC 5 (pB 2), sC 6 (pB 3), sC 8 (rCell (celL L ts)), sI 9 one, sC 29 (rStp ts), sI 30 ts.length, sI 31 i] [bLay L, none, bS5 nm l sp ac br, some (.cells [.c (.f .nils), xI 0])]) (fun i => i ≤ ts.length ∧ ∀ j, j < i → tight L l (ts.getD j st0) = false) (fun i => ts.length - i) 0 ?_ ⟨by omega, fun j hj => by omega⟩ ?_
    ·
      refine X_weak rfl rfl rfl ?_ ?_ <;> repeat' (first|with_reducible (first|refine Wk.o (by constructor) ?_|refine q_and ?_ ?_|exact True.intro)|refine q_AgS rfl ?_ ?_|exact CLe.nil_tipS|exact CLe.nil_rowS|refine HLe.cells ?_ ?_|refine HLe.els ?_ ?_|refine SLe.cons ?_ ?_|exact (rfl : known _ = _)|with_reducible rfl|omega)
    intro i hi
    obtain ⟨hi, hno⟩ := hi
    have hsec : (i : Int) < ts.length → 0 ≤ (ts.getD (i : Int).toNat { sec := 0, dir := 0 }).sec ∧ (ts.getD (i : Int).toNat { sec := 0, dir := 0 }).sec < L.secs.length := fun h => by
      obtain ⟨x, y, _⟩ := ok_dir (all_at (i := i) hok (by omega))
      exact ⟨x, y⟩
    repeat' (first
      |with_reducible (first|refine q_and ?_ ?_|exact True.intro|exact TkEq.nil _|refine Red.o (by constructor) ?_|refine blockK_o' rfl ?_|refine LoopX_e' rfl ?_|assumption)
      |((with_reducible apply q_CI);intro hbq;(try simp only [bq] at hbq);(try (exfalso;omega)))
      |refine Rex.o (by (with_reducible constructor);apply Eq.refl) ?_
      |(intro (hgq : (_ : Bool) = true);(try simp only [bq] at hgq))
      |(intro (hgq : (_ : Bool) = false);(try simp only [bq] at hgq))
      |((with_reducible apply q_VOk);exact fun _ => ⟨rfl,rfl⟩)|(intro _;exact rfl)|((with_reducible apply q_CRB);kernel_rfl)|((with_reducible apply q_bt);simp only [bq])|((with_reducible apply q_eqN);rfl)|((with_reducible apply q_FE);exact rfl)|with_reducible (first|exact isByte_wrap _|exact isByte_nat _)|(simp only [hgq,bq];done)|omega|(dsimp only;omega))
    · rw [fit_12 hc hb' (any_at (i := i) (by rw [hts]; omega) (by rw [hts]; unfold tight secA; simpa using hbq))]; rfl
    ·
      refine LoopK_n (i + 1) ?_ (⟨by omega, upto_succ hno (by unfold tight secA; simpa using hbq)⟩) (by (try dsimp only); omega)
      refine X_weak rfl rfl rfl ?_ ?_ <;> repeat' (first|with_reducible (first|refine Wk.o (by constructor) ?_|refine q_and ?_ ?_|exact True.intro)|refine q_AgS rfl ?_ ?_|exact CLe.nil_tipS|exact CLe.nil_rowS|refine HLe.cells ?_ ?_|refine HLe.els ?_ ?_|refine SLe.cons ?_ ?_|exact (rfl : known _ = _)|with_reducible rfl|omega)
    · rw [fit_0 hc hb' (by rw [hts]; exact any_not fun j hj => hno j (by omega))]; rfl
  · rw [fit_c hc, if_neg hc, if_neg hc]
    unfold celOut celOne at hC
    rw [if_neg hc, if_neg hc] at hC
    unfold vLay at hC ⊢
    refine X_fn mixedX Try.func31 rfl (by kernel_rfl) (Nat.le_of_ble_eq_true (by kernel_rfl)) (by kernel_rfl) rfl rfl (Nat.le_of_ble_eq_true rfl) rfl rfl ?_
    simp only [sl0, Nat.zero_add, Nat.reduceAdd]
    repeat' (first
      |with_reducible (first|refine q_and ?_ ?_|exact True.intro|exact TkEq.nil _|refine Red.o (by constructor) ?_|refine blockK_o' rfl ?_|refine LoopX_e' rfl ?_|assumption)
      |((with_reducible apply q_call);refine X_pure (hC) rfl ?_)
      |((with_reducible apply q_CI);intro hbq;(try simp only [bq] at hbq);(try (exfalso;omega)))
      |refine Rex.o (by (with_reducible constructor);apply Eq.refl) ?_
      |(intro (hgq : (_ : Bool) = true);(try simp only [bq] at hgq))
      |(intro (hgq : (_ : Bool) = false);(try simp only [bq] at hgq))
      |((with_reducible apply q_VOk);exact fun _ => ⟨rfl,rfl⟩)|(intro _;exact rfl)|((with_reducible apply q_CRB);kernel_rfl)|((with_reducible apply q_bt);simp only [bq])|((with_reducible apply q_eqN);rfl)|((with_reducible apply q_FE);exact rfl)|with_reducible (first|exact isByte_wrap _|exact isByte_nat _)|(simp only [hgq,bq];done)|omega|(dsimp only;omega))
    · rfl
theorem fits_ok (L : Lay) (hL : LayFits L) (st : List Stp) (ov : Int) (hl : st.length ≤ 4611686018427387904) (ho : -9223372036854775807 ≤ ov ∧ ov ≤ 9223372036854775807) (nm : ByteArray) (l sp ac br : Int) : OkV Try.prog 23 [vLay L, vR2 st ov, vS5 nm l sp ac br] [] (vI (fitErr L ⟨st, ov⟩ l sp ac br)) [] := by
  have hF := fit_ok L hL st ov hl ho nm l sp ac br
  unfold vLay at hF ⊢
  refine X_fn mixedX Try.func23 rfl (by kernel_rfl) (Nat.le_of_ble_eq_true (by kernel_rfl)) (by kernel_rfl) rfl rfl (Nat.le_of_ble_eq_true rfl) rfl rfl ?_
  simp only [sl0, Nat.zero_add, Nat.reduceAdd]
  repeat' (first
    |with_reducible (first|refine q_and ?_ ?_|exact True.intro|exact TkEq.nil _|refine Red.o (by constructor) ?_|refine blockK_o' rfl ?_|refine LoopX_e' rfl ?_|assumption)
    |((with_reducible apply q_call);refine X_pure (hF) rfl ?_)
    |((with_reducible apply q_CI);intro hbq;(try simp only [bq] at hbq);(try (exfalso;omega)))
    |refine Rex.o (by (with_reducible constructor);apply Eq.refl) ?_
    |(intro (hgq : (_ : Bool) = true);(try simp only [bq] at hgq))
    |(intro (hgq : (_ : Bool) = false);(try simp only [bq] at hgq))
    |((with_reducible apply q_VOk);exact fun _ => ⟨rfl,rfl⟩)|(intro _;exact rfl)|((with_reducible apply q_CRB);kernel_rfl)|((with_reducible apply q_bt);simp only [bq])|((with_reducible apply q_eqN);rfl)|((with_reducible apply q_FE);exact rfl)|with_reducible (first|exact isByte_wrap _|exact isByte_nat _)|(simp only [hgq,bq];done)|omega|(dsimp only;omega))
  repeat' (first|with_reducible (first|refine Wk.o (by constructor) ?_|refine q_and ?_ ?_|exact True.intro)|refine VEq.c ?_|refine VEq.agg ?_|refine VEq.tup ?_|refine TkEq.cells ?_ ?_|refine TkEq.els ?_ ?_|refine SEqL.cons ?_ ?_|refine TEqL.agg ?_ ?_|refine CEq.rows ?_|refine CEq.int ?_|rfl|omega)
theorem refFits_ok (L : Lay) (hL : LayFits L) (st : List Stp) (ov : Int) (hl : st.length ≤ 4611686018427387904) (ho : -9223372036854775807 ≤ ov ∧ ov ≤ 9223372036854775807) (nm : ByteArray) (l sp ac br : Int) : OkV Try.prog 30 [vLay L, vR2 st ov, vS5 nm l sp ac br] [] (vI (fitErr L ⟨st, ov⟩ l sp ac br)) [] := by
  have hC := refCells_ok L hL st ov hl ho
  have hK := chkStock_ok nm l sp ac br
  by_cases hc : celErr L ⟨st, ov⟩ = 0
  · have hr := rte_of (cel_rte hc)
    have hr1 := hr.ov0
    have hr2 := hr.two
    have hr3 := hr.len
    have hr4 := hr.ok
    simp only at hr1 hr2 hr3 hr4
    have htl := trv_len hr
    have hV := valid_of hr.lay
    have hn3 := hV.n3
    rw [hc] at hC
    unfold vLay at hC ⊢
    refine X_fn mixedX Try.func30 rfl (by kernel_rfl) (Nat.le_of_ble_eq_true (by kernel_rfl)) (by kernel_rfl) rfl rfl (Nat.le_of_ble_eq_true rfl) rfl rfl ?_
    simp only [sl0, Nat.zero_add, Nat.reduceAdd]
    repeat' (first
      |with_reducible (first|refine q_and ?_ ?_|exact True.intro|exact TkEq.nil _|refine Red.o (by constructor) ?_|refine blockK_o' rfl ?_|refine LoopX_e' rfl ?_|assumption)
      |((with_reducible apply q_call);first|refine X_pure (hC) rfl ?_|refine X_pure (hK) rfl ?_)
      |((with_reducible apply q_CI);intro hbq;(try simp only [bq] at hbq);(try (exfalso;omega)))
      |refine Rex.o (by (with_reducible constructor);apply Eq.refl) ?_
      |(intro (hgq : (_ : Bool) = true);(try simp only [bq] at hgq))
      |(intro (hgq : (_ : Bool) = false);(try simp only [bq] at hgq))
      |((with_reducible apply q_VOk);exact fun _ => ⟨rfl,rfl⟩)|(intro _;exact rfl)|((with_reducible apply q_CRB);kernel_rfl)|((with_reducible apply q_bt);simp only [bq])|((with_reducible apply q_eqN);rfl)|((with_reducible apply q_FE);exact rfl)|with_reducible (first|exact isByte_wrap _|exact isByte_nat _)|(simp only [hgq,bq];done)|omega|(dsimp only;omega))
    · rw [fit_1 hc hbq]; rfl
    have hb' := hbq
    clear hC hK
    have hq := chk_of hbq
    refine W_loopS (fun i : Nat => SS [sC 3 (pB 0), sC 4 (pB 1), sC 5 (pB 2), sI 10 i] [bLay L, bRte st ov, bS5 nm l sp ac br]) (fun i => (i : Int) ≤ st.length - ov ∧ ∀ j, j < i → tight L l (st.getD j st0) = false) (fun i => st.length - i) 0 ?_ ⟨by omega, fun j hj => by omega⟩ ?_
    ·
      refine X_weak rfl rfl rfl ?_ ?_ <;> repeat' (first|with_reducible (first|refine Wk.o (by constructor) ?_|refine q_and ?_ ?_|exact True.intro)|refine q_AgS rfl ?_ ?_|exact CLe.nil_tipS|exact CLe.nil_rowS|refine HLe.cells ?_ ?_|refine HLe.els ?_ ?_|refine SLe.cons ?_ ?_|exact (rfl : known _ = _)|with_reducible rfl|omega)
    intro i hi
    obtain ⟨hi, hno⟩ := hi
    have hsec : (i : Int) < st.length - ov → 0 ≤ (st.getD (i : Int).toNat { sec := 0, dir := 0 }).sec ∧ (st.getD (i : Int).toNat { sec := 0, dir := 0 }).sec < L.secs.length := fun h => by
      obtain ⟨x, y, _⟩ := ok_dir (all_at (i := i) hr4 (by omega))
      exact ⟨x, y⟩
    repeat' (first
      |with_reducible (first|refine q_and ?_ ?_|exact True.intro|exact TkEq.nil _|refine Red.o (by constructor) ?_|refine blockK_o' rfl ?_|refine LoopX_e' rfl ?_|assumption)
      |((with_reducible apply q_CI);intro hbq;(try simp only [bq] at hbq);(try (exfalso;omega)))
      |refine Rex.o (by (with_reducible constructor);apply Eq.refl) ?_
      |(intro (hgq : (_ : Bool) = true);(try simp only [bq] at hgq))
      |(intro (hgq : (_ : Bool) = false);(try simp only [bq] at hgq))
      |((with_reducible apply q_VOk);exact fun _ => ⟨rfl,rfl⟩)|(intro _;exact rfl)|((with_reducible apply q_CRB);kernel_rfl)|((with_reducible apply q_bt);simp only [bq])|((with_reducible apply q_eqN);rfl)|((with_reducible apply q_FE);exact rfl)|with_reducible (first|exact isByte_wrap _|exact isByte_nat _)|(simp only [hgq,bq];done)|omega|(dsimp only;omega))
    · rw [fit_12 hc hb' (any_at (i := i) (by have := htl; simp only at this; omega) (by rw [trv_at hr (by simp only; omega)]; unfold tight secA; simpa using hbq))]; rfl
    ·
      refine LoopK_n (i + 1) ?_ (⟨by omega, upto_succ hno (by unfold tight secA; simpa using hbq)⟩) (by (try dsimp only); omega)
      refine X_weak rfl rfl rfl ?_ ?_ <;> repeat' (first|with_reducible (first|refine Wk.o (by constructor) ?_|refine q_and ?_ ?_|exact True.intro)|refine q_AgS rfl ?_ ?_|exact CLe.nil_tipS|exact CLe.nil_rowS|refine HLe.cells ?_ ?_|refine HLe.els ?_ ?_|refine SLe.cons ?_ ?_|exact (rfl : known _ = _)|with_reducible rfl|omega)
    · rw [fit_0 hc hb' (any_not fun j hj => by rw [trv_at hr (by simp only at htl ⊢; omega)]; exact hno j (by simp only at htl; omega))]; rfl
  · rw [fit_c hc]
    unfold vLay at hC ⊢
    refine X_fn mixedX Try.func30 rfl (by kernel_rfl) (Nat.le_of_ble_eq_true (by kernel_rfl)) (by kernel_rfl) rfl rfl (Nat.le_of_ble_eq_true rfl) rfl rfl ?_
    simp only [sl0, Nat.zero_add, Nat.reduceAdd]
    repeat' (first
      |with_reducible (first|refine q_and ?_ ?_|exact True.intro|exact TkEq.nil _|refine Red.o (by constructor) ?_|refine blockK_o' rfl ?_|refine LoopX_e' rfl ?_|assumption)
      |((with_reducible apply q_call);refine X_pure (hC) rfl ?_)
      |((with_reducible apply q_CI);intro hbq;(try simp only [bq] at hbq);(try (exfalso;omega)))
      |refine Rex.o (by (with_reducible constructor);apply Eq.refl) ?_
      |(intro (hgq : (_ : Bool) = true);(try simp only [bq] at hgq))
      |(intro (hgq : (_ : Bool) = false);(try simp only [bq] at hgq))
      |((with_reducible apply q_VOk);exact fun _ => ⟨rfl,rfl⟩)|(intro _;exact rfl)|((with_reducible apply q_CRB);kernel_rfl)|((with_reducible apply q_bt);simp only [bq])|((with_reducible apply q_eqN);rfl)|((with_reducible apply q_FE);exact rfl)|with_reducible (first|exact isByte_wrap _|exact isByte_nat _)|(simp only [hgq,bq];done)|omega|(dsimp only;omega))
    · rfl
end Go.Proofs.Ytbpeakgihhdocaa.Av
namespace Go.Proofs.Ytbpeakgihhdocaa.Av
set_option linter.unusedVariables false
set_option linter.unusedSimpArgs false
set_option maxRecDepth 4000
set_option maxHeartbeats 4000000
theorem lLoop_secs (i : Nat) : ∀ (k : Nat) (x : TBS), (lLoop i k x).2.1.L.secs.length = x.2.1.L.secs.length + k
  | 0, x => rfl
  | k + 1, x => by
    simp only [lLoop]
    rw [lLoop_secs i k (lStep i (k + 1) x)]
    simp only [lStep, Bld.add, List.length_append, List.length_singleton]
    omega
theorem pStep_secs (i : Nat) (x : Bld × Src) : 1 ≤ (pStep i x).1.L.secs.length := by
  have hl := lLoop_secs i (1 + x.2.nx 2) ([], x.1, x.2.af)
  unfold pStep
  generalize lLoop i (1 + x.2.nx 2) ([], x.1, x.2.af) = y at hl ⊢
  simp only
  show 1 ≤ (Bld.fan _ _ _ _).L.secs.length
  rw [fan_secs, fan_secs, cLoop_secs]
  omega
theorem genL_secs (l : List Int) : 1 ≤ (genL l).secs.length := by
  unfold genL rowB
  rw [show 1 + Src.nx ⟨l, 0⟩ 2 = Src.nx ⟨l, 0⟩ 2 + 1 by omega, iter]
  exact pStep_secs _ _
structure RtG where
  st : List Stp
  x : Stp
  n : Nat
  s : Src
def rtNext (L : Lay) (g : RtG) : Stp := ⟨((hopsL L g.x).getD ((g.s.nx (hopsL L g.x).length : Nat) : Int).toNat ⟨0, 0, 0, 0⟩).sec, ((hopsL L g.x).getD ((g.s.nx (hopsL L g.x).length : Nat) : Int).toNat ⟨0, 0, 0, 0⟩).dir⟩
def rtRun (L : Lay) : Nat → RtG → RtG
  | 0, g => g
  | k + 1, g => if hopsL L g.x = [] then g else
    if g.st.any (fun s => decide (s.sec = (rtNext L g).sec)) = true then ⟨g.st, rtNext L g, 0, g.s.af⟩
    else rtRun L k ⟨g.st ++ [rtNext L g], rtNext L g, k, g.s.af⟩
def rtZero (L : Lay) (c : List Int) : RtG :=
  let s : Src := ⟨c, 0⟩
  let x : Stp := ⟨s.nx L.secs.length, s.af.nx 2⟩
  ⟨[x], x, 1 + s.af.af.nx 6, s.af.af.af⟩
def rtG (L : Lay) (c : List Int) : RtG := rtRun L (rtZero L c).n (rtZero L c)
def genOv (L : Lay) (c : List Int) : Int := min ((rtG L c).s.nx 3 : Int) (max 0 ((rtG L c).st.length - 2))
theorem rtRun_len (L : Lay) : ∀ (k : Nat) (g : RtG), g.s.ok → (rtRun L k g).s.ok ∧ g.st.length ≤ (rtRun L k g).st.length ∧ (rtRun L k g).st.length ≤ g.st.length + k
  | 0, g, h => ⟨h, Nat.le_refl _, Nat.le_refl _⟩
  | k + 1, g, h => by
    unfold rtRun
    split
    · exact ⟨h, Nat.le_refl _, by omega⟩
    · split
      · exact ⟨Src.af_ok h, Nat.le_refl _, by simp only; omega⟩
      · obtain ⟨a, b, c⟩ := rtRun_len L k ⟨g.st ++ [rtNext L g], rtNext L g, k, g.s.af⟩ (Src.af_ok h)
        simp only [List.length_append, List.length_singleton] at b c
        exact ⟨a, by omega, by omega⟩
theorem gen_rt (L : Lay) (c : List Int) (hc : c.length ≤ 9223372036854775807) : (rtG L c).s.ok ∧ 1 ≤ (rtG L c).st.length ∧ (rtG L c).st.length ≤ 7 ∧ 0 ≤ genOv L c ∧ genOv L c ≤ 2 := by
  have h0 : Src.ok ⟨c, 0⟩ := ⟨Nat.zero_le _, hc⟩
  obtain ⟨a, b, d⟩ := rtRun_len L (rtZero L c).n (rtZero L c) (Src.af_ok (Src.af_ok (Src.af_ok h0)))
  have h6 := (⟨c, 0⟩ : Src).af.af.nx_lt (n := 6) (by omega)
  have h3 := (rtG L c).s.nx_lt (n := 3) (by omega)
  have e1 : (rtZero L c).st.length = 1 := rfl
  have e2 : (rtZero L c).n = 1 + (⟨c, 0⟩ : Src).af.af.nx 6 := rfl
  refine ⟨a, ?_, ?_, ?_, ?_⟩
  · unfold rtG; omega
  · unfold rtG; omega
  · unfold genOv; omega
  · unfold genOv; omega
theorem stock_ok (l : List Int) (hl : l.length ≤ 9223372036854775807) : OkV Try.prog 29 [.c (rInt l)] [] (vS5 ⟨#[88]⟩ (1 + (⟨l, 0⟩ : Src).nx 4) (5000 + 2500 * (⟨l, 0⟩ : Src).af.nx 12) (200 + 100 * (⟨l, 0⟩ : Src).af.af.nx 8) (200 + 100 * (⟨l, 0⟩ : Src).af.af.af.nx 8)) [] := by
  have h0 : Src.ok ⟨l, 0⟩ := ⟨Nat.zero_le _, hl⟩
  have hF := from_ok l
  generalize (⟨l, 0⟩ : Src) = s at *
  have k1 := s.nx_lt (n := 4) (by omega)
  have k2 := s.af.nx_lt (n := 12) (by omega)
  have k3 := s.af.af.nx_lt (n := 8) (by omega)
  have k4 := s.af.af.af.nx_lt (n := 8) (by omega)
  have h1 := next_ok s 4 h0 (by omega) (by omega)
  have h2 := next_ok s.af 12 (Src.af_ok h0) (by omega) (by omega)
  have h3 := next_ok s.af.af 8 (Src.af_ok (Src.af_ok h0)) (by omega) (by omega)
  have h4 := next_ok s.af.af.af 8 (Src.af_ok (Src.af_ok (Src.af_ok h0))) (by omega) (by omega)
  refine X_fnP mixedX Try.func29 rfl (by kernel_rfl) (Nat.le_of_ble_eq_true (by kernel_rfl)) (by kernel_rfl) rfl rfl ?_
  simp only [sl0, Nat.zero_add, Nat.reduceAdd]
  repeat' (first
    |with_reducible (first|refine q_and ?_ ?_|exact True.intro|exact TkEq.nil _|refine Red.o (by constructor) ?_|refine blockK_o' rfl ?_|refine LoopX_e' rfl ?_|assumption)
    |((with_reducible apply q_call);first|refine X_call [] (hF) rfl rfl rfl rfl rfl rfl rfl rfl rfl rfl rfl rfl rfl ?_|refine X_call [1] (h1) rfl rfl rfl rfl rfl rfl rfl rfl rfl rfl rfl rfl rfl ?_|refine X_call [1] (h2) rfl rfl rfl rfl rfl rfl rfl rfl rfl rfl rfl rfl rfl ?_|refine X_call [1] (h3) rfl rfl rfl rfl rfl rfl rfl rfl rfl rfl rfl rfl rfl ?_|refine X_call [1] (h4) rfl rfl rfl rfl rfl rfl rfl rfl rfl rfl rfl rfl rfl ?_)
    |((with_reducible apply q_CI);intro hbq;(try simp only [bq] at hbq);(try (exfalso;omega)))
    |with_reducible (first|refine W_seq ?_|refine W_block ?_)
    |((with_reducible apply q_cond);refine X_cond rfl ?_ ?_;all_goals (intro hbq;(try simp only [bq] at hbq);(try (exfalso;omega))))
    |refine Rex.o (by (with_reducible constructor);apply Eq.refl) ?_
    |(intro (hgq : (_ : Bool) = true);(try simp only [bq] at hgq))
    |(intro (hgq : (_ : Bool) = false);(try simp only [bq] at hgq))
    |((with_reducible apply q_VOk);exact fun _ => ⟨rfl,rfl⟩)|(intro _;exact rfl)|((with_reducible apply q_CRB);kernel_rfl)|((with_reducible apply q_bt);simp only [bq])|((with_reducible apply q_eqN);rfl)|((with_reducible apply q_FE);exact rfl)|with_reducible (first|exact isByte_wrap _|exact isByte_nat _)|(simp only [hgq,bq];done)|omega|(dsimp only;omega))
  repeat' (first|with_reducible (first|refine Wk.o (by constructor) ?_|refine q_and ?_ ?_|exact True.intro)|refine VEq.c ?_|refine VEq.agg ?_|refine VEq.tup ?_|refine TkEq.cells ?_ ?_|refine TkEq.els ?_ ?_|refine SEqL.cons ?_ ?_|refine TEqL.agg ?_ ?_|refine CEq.rows ?_|refine CEq.int ?_|rfl|omega)
theorem route_ok (L : Lay) (hV : Valid L) (h1 : 1 ≤ L.secs.length) (c : List Int) (hc : c.length ≤ 9223372036854775807) : OkV Try.prog 28 [vLay L, .c (rInt c)] [] (vR2 (rtG L c).st (genOv L c)) [] := by
  have h0 : Src.ok ⟨c, 0⟩ := ⟨Nat.zero_le _, hc⟩
  have hn3 := hV.n3
  have hF := from_ok c
  have hH := fun x => refHops_ok L x hV
  have hhl : ∀ x, (hopsL L x).length ≤ 192 := fun x => Nat.le_trans (List.length_filterMap_le _ _) hV.n4
  have hR := gen_rt L c hc
  have hG : rtRun L (rtZero L c).n (rtZero L c) = rtG L c := rfl
  unfold genOv
  unfold rtZero at hG
  generalize rtG L c = R at *
  simp only at hG
  generalize (⟨c, 0⟩ : Src) = s at *
  have k1 := s.nx_lt (n := L.secs.length) (by omega)
  have k2 := s.af.nx_lt (n := 2) (by omega)
  have k3 := s.af.af.nx_lt (n := 6) (by omega)
  have n1 := next_ok s L.secs.length h0 (by omega) (by omega)
  have n2 := next_ok s.af 2 (Src.af_ok h0) (by omega) (by omega)
  have n3 := next_ok s.af.af 6 (Src.af_ok (Src.af_ok h0)) (by omega) (by omega)
  unfold vLay at hH ⊢
  refine X_fnP mixedX Try.func28 rfl (by kernel_rfl) (Nat.le_of_ble_eq_true (by kernel_rfl)) (by kernel_rfl) rfl rfl ?_
  simp only [sl0, Nat.zero_add, Nat.reduceAdd]
  repeat' (first
    |with_reducible (first|refine q_and ?_ ?_|exact True.intro|exact TkEq.nil _|refine Red.o (by constructor) ?_|refine blockK_o' rfl ?_|refine LoopX_e' rfl ?_|assumption)
    |((with_reducible apply q_call);first|refine X_call [] (hF) rfl rfl rfl rfl rfl rfl rfl rfl rfl rfl rfl rfl rfl ?_|refine X_call [2] (n1) rfl rfl rfl rfl rfl rfl rfl rfl rfl rfl rfl rfl rfl ?_|refine X_call [2] (n2) rfl rfl rfl rfl rfl rfl rfl rfl rfl rfl rfl rfl rfl ?_|refine X_call [2] (n3) rfl rfl rfl rfl rfl rfl rfl rfl rfl rfl rfl rfl rfl ?_)
    |((with_reducible apply q_CI);intro hbq;(try simp only [bq] at hbq);(try (exfalso;omega)))
    |with_reducible (first|refine W_seq ?_|refine W_block ?_)
    |((with_reducible apply q_cond);refine X_cond rfl ?_ ?_;all_goals (intro hbq;(try simp only [bq] at hbq);(try (exfalso;omega))))
    |refine Rex.o (by (with_reducible constructor);apply Eq.refl) ?_
    |(intro (hgq : (_ : Bool) = true);(try simp only [bq] at hgq))
    |(intro (hgq : (_ : Bool) = false);(try simp only [bq] at hgq))
    |((with_reducible apply q_VOk);exact fun _ => ⟨rfl,rfl⟩)|(intro _;exact rfl)|((with_reducible apply q_CRB);kernel_rfl)|((with_reducible apply q_bt);simp only [bq])|((with_reducible apply q_eqN);rfl)|((with_reducible apply q_FE);exact rfl)|with_reducible (first|exact isByte_wrap _|exact isByte_nat _)|(simp only [hgq,bq];done)|omega|(dsimp only;omega))
  refine W_loopS (fun g : RtG × Int => SS [sC 2 (pB 0), sC 4 (pB 1), sC 5 (pB 2), sC 6 (pB 3), sC 7 (pB 4), sI 8 g.2] [bLay L, some (.cells [.c (.f .nils), xI 0]), some g.1.s.box, some (.cells [uStp g.1.st, xI 0]), some (.cells [xI g.1.x.sec, xI g.1.x.dir])]) (fun g => (g.2 = g.1.n ∨ g.2 ≤ 0 ∧ g.1.n = 0) ∧ -1 ≤ g.2 ∧ g.1.s.ok ∧ g.1.st.length + g.1.n ≤ 7 ∧ rtRun L g.1.n g.1 = R) (fun g => g.2.toNat) (⟨[⟨s.nx L.secs.length, s.af.nx 2⟩], ⟨s.nx L.secs.length, s.af.nx 2⟩, 1 + s.af.af.nx 6, s.af.af.af⟩, 1 + (s.af.af.nx 6 : Nat)) ?_ ⟨.inl (by simp only; omega), by simp only; omega, Src.af_ok (Src.af_ok (Src.af_ok h0)), by simp only [List.length_singleton]; omega, hG⟩ ?_
  ·
    refine X_weak rfl rfl rfl ?_ ?_ <;> repeat' (first|with_reducible (first|refine Wk.o (by constructor) ?_|refine q_and ?_ ?_|exact True.intro)|refine q_AgS rfl ?_ ?_|exact CLe.nil_tipS|exact CLe.nil_rowS|refine HLe.cells ?_ ?_|refine HLe.els ?_ ?_|refine SLe.cons ?_ ?_|exact (rfl : known _ = _)|with_reducible rfl|omega)
    all_goals rfl
  rintro ⟨⟨st, x, n, t⟩, k⟩ ⟨hk, hk1, hs, hlen, hR2⟩
  simp only at hk hk1 hs hlen hR2
  clear hG n1 n2 n3 k1 k2 k3 hF h0
  have hHx := hH x
  have hhx := hhl x
  clear hH hhl
  by_cases hk0 : 0 < k
  · obtain ⟨m, rfl⟩ : ∃ m, n = m + 1 := ⟨n - 1, by omega⟩
    have hkn : k = (m : Int) + 1 := by omega
    clear hk
    unfold rtRun at hR2
    simp only at hR2
    by_cases hh : (hopsL L x).length = 0
    · have hh2 : hopsL L x = [] := List.eq_nil_of_length_eq_zero hh
      rw [if_pos hh2] at hR2
      subst hR2
      have nn := next_ok t 3 hs (by omega) (by omega)
      have kk := t.nx_lt (n := 3) (by omega)
      repeat' (first
        |with_reducible (first|refine q_and ?_ ?_|exact True.intro|exact TkEq.nil _|refine Red.o (by constructor) ?_|refine blockK_o' rfl ?_|refine LoopX_e' rfl ?_|assumption)
        |((with_reducible apply q_call);first|refine X_pure (hHx) rfl ?_|refine X_call [2] (nn) rfl rfl rfl rfl rfl rfl rfl rfl rfl rfl rfl rfl rfl ?_)
        |((with_reducible apply q_CI);intro hbq;(try simp only [bq] at hbq);(try (exfalso;omega)))
        |with_reducible (first|refine W_seq ?_|refine W_block ?_)
        |((with_reducible apply q_cond);refine X_cond rfl ?_ ?_;all_goals (intro hbq;(try simp only [bq] at hbq);(try (exfalso;omega))))
        |refine Rex.o (by (with_reducible constructor);apply Eq.refl) ?_
        |(intro (hgq : (_ : Bool) = true);(try simp only [bq] at hgq))
        |(intro (hgq : (_ : Bool) = false);(try simp only [bq] at hgq))
        |((with_reducible apply q_VOk);exact fun _ => ⟨rfl,rfl⟩)|(intro _;exact rfl)|((with_reducible apply q_CRB);kernel_rfl)|((with_reducible apply q_bt);simp only [bq])|((with_reducible apply q_eqN);rfl)|((with_reducible apply q_FE);exact rfl)|with_reducible (first|exact isByte_wrap _|exact isByte_nat _)|(simp only [hgq,bq];done)|omega|(dsimp only;omega))
      · rfl
    · have hh2 : ¬ hopsL L x = [] := fun e => hh (by rw [e]; rfl)
      rw [if_neg hh2] at hR2
      have hN := next_ok t (hopsL L x).length hs (by omega) (by omega)
      have hNl := t.nx_lt (n := (hopsL L x).length) (by omega)
      generalize hy : rtNext L ⟨st, x, m + 1, t⟩ = y at *
      have y1 : y.sec = ((hopsL L x).getD ((t.nx (hopsL L x).length : Nat) : Int).toNat ⟨0, 0, 0, 0⟩).sec := by rw [← hy]; rfl
      have y2 : y.dir = ((hopsL L x).getD ((t.nx (hopsL L x).length : Nat) : Int).toNat ⟨0, 0, 0, 0⟩).dir := by rw [← hy]; rfl
      repeat' (first
        |with_reducible (first|refine q_and ?_ ?_|exact True.intro|exact TkEq.nil _|refine Red.o (by constructor) ?_|refine blockK_o' rfl ?_|refine LoopX_e' rfl ?_|assumption)
        |((with_reducible apply q_call);first|refine X_pure (hHx) rfl ?_|refine X_call [2] (hN) rfl rfl rfl rfl rfl rfl rfl rfl rfl rfl rfl rfl rfl ?_)
        |((with_reducible apply q_CI);intro hbq;(try simp only [bq] at hbq);(try (exfalso;omega)))
        |with_reducible (first|refine W_seq ?_|refine W_block ?_)
        |((with_reducible apply q_cond);refine X_cond rfl ?_ ?_;all_goals (intro hbq;(try simp only [bq] at hbq);(try (exfalso;omega))))
        |refine Rex.o (by (with_reducible constructor);apply Eq.refl) ?_
        |(intro (hgq : (_ : Bool) = true);(try simp only [bq] at hgq))
        |(intro (hgq : (_ : Bool) = false);(try simp only [bq] at hgq))
        |((with_reducible apply q_VOk);exact fun _ => ⟨rfl,rfl⟩)|(intro _;exact rfl)|((with_reducible apply q_CRB);kernel_rfl)|((with_reducible apply q_bt);simp only [bq])|((with_reducible apply q_eqN);rfl)|((with_reducible apply q_FE);exact rfl)|with_reducible (first|exact isByte_wrap _|exact isByte_nat _)|(simp only [hgq,bq];done)|omega|(dsimp only;omega))
      refine W_loopS (fun g : Nat × Int => SS [sC 2 (pB 0), sC 4 (pB 1), sC 5 (pB 2), sC 6 (pB 3), sC 7 (pB 4), sI 8 g.2, sI 50 st.length, sI 51 g.1] [bLay L, some (.cells [.c (.f .nils), xI 0]), some t.af.box, some (.cells [uStp st, xI 0]), some (.cells [xI y.sec, xI y.dir])]) (fun g => g.1 ≤ st.length ∧ g.2 = if (st.take g.1).any (fun s => decide (s.sec = y.sec)) = true then 0 else k) (fun g => st.length - g.1) (0, k) ?_ ⟨by simp only; omega, rfl⟩ ?_
      ·
        refine X_weak rfl rfl rfl ?_ ?_ <;> repeat' (first|with_reducible (first|refine Wk.o (by constructor) ?_|refine q_and ?_ ?_|exact True.intro)|refine q_AgS rfl ?_ ?_|exact CLe.nil_tipS|exact CLe.nil_rowS|refine HLe.cells ?_ ?_|refine HLe.els ?_ ?_|refine SLe.cons ?_ ?_|exact (rfl : known _ = _)|with_reducible rfl|omega)
        all_goals first | exact y1 | exact y2 | exact y1.symm | exact y2.symm
      rintro ⟨i, v⟩ ⟨hi, hv⟩
      simp only at hi hv
      have htk : i < st.length → (st.take (i + 1)).any (fun s => decide (s.sec = y.sec)) = ((st.take i).any (fun s => decide (s.sec = y.sec)) || decide ((st.getD i st0).sec = y.sec)) := fun h => by
        rw [take_snoc h, List.any_append, List.any_cons, List.any_nil, Bool.or_false]
      by_cases hil : i < st.length
      · by_cases he : (st.getD (i : Int).toNat { sec := 0, dir := 0 }).sec = y.sec
        ·
          repeat' (first
            |with_reducible (first|refine q_and ?_ ?_|exact True.intro|exact TkEq.nil _|refine Red.o (by constructor) ?_|refine blockK_o' rfl ?_|refine LoopX_e' rfl ?_|assumption)
            |((with_reducible apply q_CI);intro hbq;(try simp only [bq] at hbq);(try (exfalso;omega)))
            |with_reducible (first|refine W_seq ?_|refine W_block ?_)
            |((with_reducible apply q_cond);refine X_cond rfl ?_ ?_;all_goals (intro hbq;(try simp only [bq] at hbq);(try (exfalso;omega))))
            |refine Rex.o (by (with_reducible constructor);apply Eq.refl) ?_
            |(intro (hgq : (_ : Bool) = true);(try simp only [bq] at hgq))
            |(intro (hgq : (_ : Bool) = false);(try simp only [bq] at hgq))
            |((with_reducible apply q_VOk);exact fun _ => ⟨rfl,rfl⟩)|(intro _;exact rfl)|((with_reducible apply q_CRB);kernel_rfl)|((with_reducible apply q_bt);simp only [bq])|((with_reducible apply q_eqN);rfl)|((with_reducible apply q_FE);exact rfl)|with_reducible (first|exact isByte_wrap _|exact isByte_nat _)|(simp only [hgq,bq];done)|omega|(dsimp only;omega))
          ·
            refine LoopK_n ((i + 1, 0)) ?_ (⟨by simp only; omega, by simp only; rw [htk hil, if_pos (by rw [Bool.or_eq_true]; right; exact decide_eq_true he)]⟩) (by (try dsimp only); omega)
            refine X_weak rfl rfl rfl ?_ ?_ <;> repeat' (first|with_reducible (first|refine Wk.o (by constructor) ?_|refine q_and ?_ ?_|exact True.intro)|refine q_AgS rfl ?_ ?_|exact CLe.nil_tipS|exact CLe.nil_rowS|refine HLe.cells ?_ ?_|refine HLe.els ?_ ?_|refine SLe.cons ?_ ?_|exact (rfl : known _ = _)|with_reducible rfl|omega)
        ·
          repeat' (first
            |with_reducible (first|refine q_and ?_ ?_|exact True.intro|exact TkEq.nil _|refine Red.o (by constructor) ?_|refine blockK_o' rfl ?_|refine LoopX_e' rfl ?_|assumption)
            |((with_reducible apply q_CI);intro hbq;(try simp only [bq] at hbq);(try (exfalso;omega)))
            |with_reducible (first|refine W_seq ?_|refine W_block ?_)
            |((with_reducible apply q_cond);refine X_cond rfl ?_ ?_;all_goals (intro hbq;(try simp only [bq] at hbq);(try (exfalso;omega))))
            |refine Rex.o (by (with_reducible constructor);apply Eq.refl) ?_
            |(intro (hgq : (_ : Bool) = true);(try simp only [bq] at hgq))
            |(intro (hgq : (_ : Bool) = false);(try simp only [bq] at hgq))
            |((with_reducible apply q_VOk);exact fun _ => ⟨rfl,rfl⟩)|(intro _;exact rfl)|((with_reducible apply q_CRB);kernel_rfl)|((with_reducible apply q_bt);simp only [bq])|((with_reducible apply q_eqN);rfl)|((with_reducible apply q_FE);exact rfl)|with_reducible (first|exact isByte_wrap _|exact isByte_nat _)|(simp only [hgq,bq];done)|omega|(dsimp only;omega))
          ·
            refine LoopK_n ((i + 1, v)) ?_ (⟨by simp only; omega, by simp only; rw [htk hil, decide_eq_false (show ¬ (st.getD i st0).sec = y.sec from he), Bool.or_false]; exact hv⟩) (by (try dsimp only); omega)
            refine X_weak rfl rfl rfl ?_ ?_ <;> repeat' (first|with_reducible (first|refine Wk.o (by constructor) ?_|refine q_and ?_ ?_|exact True.intro)|refine q_AgS rfl ?_ ?_|exact CLe.nil_tipS|exact CLe.nil_rowS|refine HLe.cells ?_ ?_|refine HLe.els ?_ ?_|refine SLe.cons ?_ ?_|exact (rfl : known _ = _)|with_reducible rfl|omega)
      · have hie : i = st.length := by omega
        subst hie
        rw [List.take_length] at hv
        by_cases hd : st.any (fun s => decide (s.sec = y.sec)) = true
        · rw [if_pos hd] at hv hR2
          repeat' (first
            |with_reducible (first|refine q_and ?_ ?_|exact True.intro|exact TkEq.nil _|refine Red.o (by constructor) ?_|refine blockK_o' rfl ?_|refine LoopX_e' rfl ?_|assumption)
            |((with_reducible apply q_CI);intro hbq;(try simp only [bq] at hbq);(try (exfalso;omega)))
            |with_reducible (first|refine W_seq ?_|refine W_block ?_)
            |((with_reducible apply q_cond);refine X_cond rfl ?_ ?_;all_goals (intro hbq;(try simp only [bq] at hbq);(try (exfalso;omega))))
            |refine Rex.o (by (with_reducible constructor);apply Eq.refl) ?_
            |(intro (hgq : (_ : Bool) = true);(try simp only [bq] at hgq))
            |(intro (hgq : (_ : Bool) = false);(try simp only [bq] at hgq))
            |((with_reducible apply q_VOk);exact fun _ => ⟨rfl,rfl⟩)|(intro _;exact rfl)|((with_reducible apply q_CRB);kernel_rfl)|((with_reducible apply q_bt);simp only [bq])|((with_reducible apply q_eqN);rfl)|((with_reducible apply q_FE);exact rfl)|with_reducible (first|exact isByte_wrap _|exact isByte_nat _)|(simp only [hgq,bq];done)|omega|(dsimp only;omega))
          ·
            refine LoopK_n ((⟨st, y, 0, t.af⟩, -1)) ?_ (⟨.inr ⟨by simp only; omega, rfl⟩, by simp only; omega, Src.af_ok hs, by simp only; omega, hR2⟩) (by (try dsimp only); omega)
            refine X_weak rfl rfl rfl ?_ ?_ <;> repeat' (first|with_reducible (first|refine Wk.o (by constructor) ?_|refine q_and ?_ ?_|exact True.intro)|refine q_AgS rfl ?_ ?_|exact CLe.nil_tipS|exact CLe.nil_rowS|refine HLe.cells ?_ ?_|refine HLe.els ?_ ?_|refine SLe.cons ?_ ?_|exact (rfl : known _ = _)|with_reducible rfl|omega)
        · rw [if_neg hd] at hv hR2
          repeat' (first
            |with_reducible (first|refine q_and ?_ ?_|exact True.intro|exact TkEq.nil _|refine Red.o (by constructor) ?_|refine blockK_o' rfl ?_|refine LoopX_e' rfl ?_|assumption)
            |((with_reducible apply q_CI);intro hbq;(try simp only [bq] at hbq);(try (exfalso;omega)))
            |with_reducible (first|refine W_seq ?_|refine W_block ?_)
            |((with_reducible apply q_cond);refine X_cond rfl ?_ ?_;all_goals (intro hbq;(try simp only [bq] at hbq);(try (exfalso;omega))))
            |refine Rex.o (by (with_reducible constructor);apply Eq.refl) ?_
            |(intro (hgq : (_ : Bool) = true);(try simp only [bq] at hgq))
            |(intro (hgq : (_ : Bool) = false);(try simp only [bq] at hgq))
            |((with_reducible apply q_VOk);exact fun _ => ⟨rfl,rfl⟩)|(intro _;exact rfl)|((with_reducible apply q_CRB);kernel_rfl)|((with_reducible apply q_bt);simp only [bq])|((with_reducible apply q_eqN);rfl)|((with_reducible apply q_FE);exact rfl)|with_reducible (first|exact isByte_wrap _|exact isByte_nat _)|(simp only [hgq,bq];done)|omega|(dsimp only;omega))
          ·
            refine LoopK_n ((⟨st ++ [y], y, m, t.af⟩, (m : Int))) ?_ (⟨.inl rfl, by simp only; omega, Src.af_ok hs, by simp only [List.length_append, List.length_singleton]; omega, hR2⟩) (by (try dsimp only); omega)
            refine X_weak rfl rfl rfl ?_ ?_ <;> repeat' (first|with_reducible (first|refine Wk.o (by constructor) ?_|refine q_and ?_ ?_|exact True.intro)|refine q_AgS rfl ?_ ?_|exact CLe.nil_tipS|exact CLe.nil_rowS|refine HLe.cells ?_ ?_|refine HLe.els ?_ ?_|refine SLe.cons ?_ ?_|exact (rfl : known _ = _)|with_reducible rfl|omega)
  · have hn0 : n = 0 := by omega
    subst hn0
    have hR3 : R = ⟨st, x, 0, t⟩ := hR2.symm
    subst hR3
    have nn := next_ok t 3 hs (by omega) (by omega)
    have kk := t.nx_lt (n := 3) (by omega)
    repeat' (first
      |with_reducible (first|refine q_and ?_ ?_|exact True.intro|exact TkEq.nil _|refine Red.o (by constructor) ?_|refine blockK_o' rfl ?_|refine LoopX_e' rfl ?_|assumption)
      |((with_reducible apply q_call);refine X_call [2] (nn) rfl rfl rfl rfl rfl rfl rfl rfl rfl rfl rfl rfl rfl ?_)
      |((with_reducible apply q_CI);intro hbq;(try simp only [bq] at hbq);(try (exfalso;omega)))
      |with_reducible (first|refine W_seq ?_|refine W_block ?_)
      |((with_reducible apply q_cond);refine X_cond rfl ?_ ?_;all_goals (intro hbq;(try simp only [bq] at hbq);(try (exfalso;omega))))
      |refine Rex.o (by (with_reducible constructor);apply Eq.refl) ?_
      |(intro (hgq : (_ : Bool) = true);(try simp only [bq] at hgq))
      |(intro (hgq : (_ : Bool) = false);(try simp only [bq] at hgq))
      |((with_reducible apply q_VOk);exact fun _ => ⟨rfl,rfl⟩)|(intro _;exact rfl)|((with_reducible apply q_CRB);kernel_rfl)|((with_reducible apply q_bt);simp only [bq])|((with_reducible apply q_eqN);rfl)|((with_reducible apply q_FE);exact rfl)|with_reducible (first|exact isByte_wrap _|exact isByte_nat _)|(simp only [hgq,bq];done)|omega|(dsimp only;omega))
    · rfl
end Go.Proofs.Ytbpeakgihhdocaa.Av
namespace Go.Proofs.Ytbpeakgihhdocaa.Av
set_option linter.unusedVariables false
set_option linter.unusedSimpArgs false
set_option maxRecDepth 4000
set_option maxHeartbeats 4000000
def exTxt : List UInt8 := [115, 101, 99, 116, 105, 111, 110, 32, 88, 32, 52, 48, 32, 51, 48, 48, 48, 48, 32, 48, 10, 115, 101, 99, 116, 105, 111, 110, 32, 89, 32, 50, 48, 32, 51, 48, 48, 48, 48, 32, 48, 10, 115, 101, 99, 116, 105, 111, 110, 32, 90, 32, 50, 48, 32, 51, 48, 48, 48, 48, 32, 48, 10, 108, 105, 110, 107, 32, 88, 32, 66, 32, 89, 32, 65, 10, 108, 105, 110, 107, 32, 89, 32, 66, 32, 90, 32, 65, 10]
def exL : Lay := ⟨[], [], [⟨bL [88], 40, 30000, 0, -1⟩, ⟨bL [89], 20, 30000, 0, -1⟩, ⟨bL [90], 20, 30000, 0, -1⟩], [⟨0, 1, 1, 0, -1, 0⟩, ⟨1, 1, 2, 0, -1, 0⟩]⟩
def exSt : List Stp := [⟨0, 0⟩, ⟨1, 0⟩, ⟨2, 0⟩]
theorem exL_fits : LayFits exL := ⟨fun x hx => (by cases hx), fun x hx => (by cases hx), fun x hx => (by
  simp only [exL, List.map_cons, List.map_nil, List.mem_cons, List.not_mem_nil, or_false] at hx
  rcases hx with rfl | rfl | rfl <;> decide), by decide, by decide, by decide, by decide⟩
theorem exL_ok : layErr exL = 0 := by kernel_rfl
theorem ex_parse : parseL exTxt = some exL := by kernel_rfl
theorem ex_lines : okF (exTxt.length + 1) exTxt 1 = true := by kernel_rfl
theorem ex_many : (linesF (exTxt.length + 1) exTxt 1).length ≤ 500 := by
  have h : (linesF (exTxt.length + 1) exTxt 1).length = 5 := by kernel_rfl
  omega
theorem ex_fit : fitErr exL ⟨exSt, 0⟩ 20 30000 500 500 = 0 := by kernel_rfl
theorem ex_fit2 : fitErr exL ⟨exSt, 0⟩ 21 30000 500 500 = 12 := by kernel_rfl
theorem example_ok : OkV Try.prog 15 [] [] (vLay exL) [] := by
  have hP := parse_ok exTxt exL (by decide) ex_lines ex_parse ex_many exL_ok exL_fits
  generalize exL = L at *
  unfold exTxt bL at hP
  unfold vLay
  refine X_fnP mixedX Try.func15 rfl (by kernel_rfl) (Nat.le_of_ble_eq_true (by kernel_rfl)) (by kernel_rfl) rfl rfl ?_
  simp only [sl0, Nat.zero_add, Nat.reduceAdd]
  repeat' (first
    |with_reducible (first|refine q_and ?_ ?_|exact True.intro|exact TkEq.nil _|refine Red.o (by constructor) ?_|refine blockK_o' rfl ?_|refine LoopX_e' rfl ?_|assumption)
    |((with_reducible apply q_call);refine X_pure (hP) rfl ?_)
    |((with_reducible apply q_CI);intro hbq;(try simp only [bq] at hbq);(try (exfalso;omega)))
    |with_reducible (first|refine W_seq ?_|refine W_block ?_)
    |((with_reducible apply q_cond);refine X_cond rfl ?_ ?_;all_goals (intro hbq;(try simp only [bq] at hbq);(try (exfalso;omega))))
    |refine Rex.o (by (with_reducible constructor);apply Eq.refl) ?_
    |(intro (hgq : (_ : Bool) = true);(try simp only [bq] at hgq))
    |(intro (hgq : (_ : Bool) = false);(try simp only [bq] at hgq))
    |((with_reducible apply q_VOk);exact fun _ => ⟨rfl,rfl⟩)|(intro _;exact rfl)|((with_reducible apply q_CRB);kernel_rfl)|((with_reducible apply q_bt);simp only [bq])|((with_reducible apply q_eqN);rfl)|((with_reducible apply q_FE);exact rfl)|with_reducible (first|exact isByte_wrap _|exact isByte_nat _)|(simp only [hgq,bq];done)|omega|(dsimp only;omega))
  repeat' (first|with_reducible (first|refine Wk.o (by constructor) ?_|refine q_and ?_ ?_|exact True.intro)|refine VEq.c ?_|refine VEq.agg ?_|refine VEq.tup ?_|refine TkEq.cells ?_ ?_|refine TkEq.els ?_ ?_|refine SEqL.cons ?_ ?_|refine TEqL.agg ?_ ?_|refine CEq.rows ?_|refine CEq.int ?_|rfl|omega)
theorem whole_ok : OkV Try.prog 16 [] [] (vR2 exSt 0) [] := by
  unfold exSt
  refine X_fnP mixedX Try.func16 rfl (by kernel_rfl) (Nat.le_of_ble_eq_true (by kernel_rfl)) (by kernel_rfl) rfl rfl ?_
  simp only [sl0, Nat.zero_add, Nat.reduceAdd]
  repeat' (first
    |with_reducible (first|refine q_and ?_ ?_|exact True.intro|exact TkEq.nil _|refine Red.o (by constructor) ?_|refine blockK_o' rfl ?_|refine LoopX_e' rfl ?_|assumption)
    |((with_reducible apply q_CI);intro hbq;(try simp only [bq] at hbq);(try (exfalso;omega)))
    |with_reducible (first|refine W_seq ?_|refine W_block ?_)
    |((with_reducible apply q_cond);refine X_cond rfl ?_ ?_;all_goals (intro hbq;(try simp only [bq] at hbq);(try (exfalso;omega))))
    |refine Rex.o (by (with_reducible constructor);apply Eq.refl) ?_
    |(intro (hgq : (_ : Bool) = true);(try simp only [bq] at hgq))
    |(intro (hgq : (_ : Bool) = false);(try simp only [bq] at hgq))
    |((with_reducible apply q_VOk);exact fun _ => ⟨rfl,rfl⟩)|(intro _;exact rfl)|((with_reducible apply q_CRB);kernel_rfl)|((with_reducible apply q_bt);simp only [bq])|((with_reducible apply q_eqN);rfl)|((with_reducible apply q_FE);exact rfl)|with_reducible (first|exact isByte_wrap _|exact isByte_nat _)|(simp only [hgq,bq];done)|omega|(dsimp only;omega))
  repeat' (first|with_reducible (first|refine Wk.o (by constructor) ?_|refine q_and ?_ ?_|exact True.intro)|refine VEq.c ?_|refine VEq.agg ?_|refine VEq.tup ?_|refine TkEq.cells ?_ ?_|refine TkEq.els ?_ ?_|refine SEqL.cons ?_ ?_|refine TEqL.agg ?_ ?_|refine CEq.rows ?_|refine CEq.int ?_|rfl|omega)
theorem stock1_ok : OkV Try.prog 18 [] [] (vS5 ⟨#[83]⟩ 20 30000 500 500) [] := by
  refine X_fnP mixedX Try.func18 rfl (by kernel_rfl) (Nat.le_of_ble_eq_true (by kernel_rfl)) (by kernel_rfl) rfl rfl ?_
  simp only [sl0, Nat.zero_add, Nat.reduceAdd]
  repeat' (first
    |with_reducible (first|refine q_and ?_ ?_|exact True.intro|exact TkEq.nil _|refine Red.o (by constructor) ?_|refine blockK_o' rfl ?_|refine LoopX_e' rfl ?_|assumption)
    |((with_reducible apply q_CI);intro hbq;(try simp only [bq] at hbq);(try (exfalso;omega)))
    |with_reducible (first|refine W_seq ?_|refine W_block ?_)
    |((with_reducible apply q_cond);refine X_cond rfl ?_ ?_;all_goals (intro hbq;(try simp only [bq] at hbq);(try (exfalso;omega))))
    |refine Rex.o (by (with_reducible constructor);apply Eq.refl) ?_
    |(intro (hgq : (_ : Bool) = true);(try simp only [bq] at hgq))
    |(intro (hgq : (_ : Bool) = false);(try simp only [bq] at hgq))
    |((with_reducible apply q_VOk);exact fun _ => ⟨rfl,rfl⟩)|(intro _;exact rfl)|((with_reducible apply q_CRB);kernel_rfl)|((with_reducible apply q_bt);simp only [bq])|((with_reducible apply q_eqN);rfl)|((with_reducible apply q_FE);exact rfl)|with_reducible (first|exact isByte_wrap _|exact isByte_nat _)|(simp only [hgq,bq];done)|omega|(dsimp only;omega))
  repeat' (first|with_reducible (first|refine Wk.o (by constructor) ?_|refine q_and ?_ ?_|exact True.intro)|refine VEq.c ?_|refine VEq.agg ?_|refine VEq.tup ?_|refine TkEq.cells ?_ ?_|refine TkEq.els ?_ ?_|refine SEqL.cons ?_ ?_|refine TEqL.agg ?_ ?_|refine CEq.rows ?_|refine CEq.int ?_|rfl|omega)
theorem awake_ok : OkV Try.prog 11 [] [] (vB true) [] := by
  have h1 := example_ok
  have h2 := whole_ok
  have h3 := stock1_ok
  have h4 := fits_ok exL exL_fits exSt 0 (by decide) (by omega) ⟨#[83]⟩ 20 30000 500 500
  have h5 := fits_ok exL exL_fits exSt 0 (by decide) (by omega) ⟨#[83]⟩ 21 30000 500 500
  rw [ex_fit] at h4
  rw [ex_fit2] at h5
  generalize exL = L at *
  generalize exSt = st at *
  unfold vLay at h1 h4 h5
  refine X_fnP mixedX Try.func11 rfl (by kernel_rfl) (Nat.le_of_ble_eq_true (by kernel_rfl)) (by kernel_rfl) rfl rfl ?_
  simp only [sl0, Nat.zero_add, Nat.reduceAdd]
  repeat' (first
    |with_reducible (first|refine q_and ?_ ?_|exact True.intro|exact TkEq.nil _|refine Red.o (by constructor) ?_|refine blockK_o' rfl ?_|refine LoopX_e' rfl ?_|assumption)
    |((with_reducible apply q_call);first|refine X_pure (h1) rfl ?_|refine X_pure (h2) rfl ?_|refine X_pure (h3) rfl ?_|refine X_pure (h4) rfl ?_)
    |((with_reducible apply q_callG);refine X_pureG ((fun _ => h1)) rfl ?_ ?_)
    |((with_reducible apply q_callG);refine X_pureG ((fun _ => h2)) rfl ?_ ?_)
    |((with_reducible apply q_callG);refine X_pureG ((fun _ => h5)) rfl ?_ ?_)
    |((with_reducible apply q_CI);intro hbq;(try simp only [bq] at hbq);(try (exfalso;omega)))
    |with_reducible (first|refine W_seq ?_|refine W_block ?_)
    |((with_reducible apply q_cond);refine X_cond rfl ?_ ?_;all_goals (intro hbq;(try simp only [bq] at hbq);(try (exfalso;omega))))
    |refine Rex.o (by (with_reducible constructor);apply Eq.refl) ?_
    |(intro (hgq : (_ : Bool) = true);(try simp only [bq] at hgq))
    |(intro (hgq : (_ : Bool) = false);(try simp only [bq] at hgq))
    |((with_reducible apply q_VOk);exact fun _ => ⟨rfl,rfl⟩)|(intro _;exact rfl)|((with_reducible apply q_CRB);kernel_rfl)|((with_reducible apply q_bt);simp only [bq])|((with_reducible apply q_eqN);rfl)|((with_reducible apply q_FE);exact rfl)|with_reducible (first|exact isByte_wrap _|exact isByte_nat _)|(simp only [hgq,bq];done)|omega|(dsimp only;omega))
  repeat' (first|with_reducible (first|refine Wk.o (by constructor) ?_|refine q_and ?_ ?_|exact True.intro)|refine VEq.c ?_|refine VEq.agg ?_|refine VEq.tup ?_|refine TkEq.cells ?_ ?_|refine TkEq.els ?_ ?_|refine SEqL.cons ?_ ?_|refine TEqL.agg ?_ ?_|refine CEq.rows ?_|refine CEq.int ?_|rfl|omega)
structure Drawn where
  L : Lay
  st : List Stp
  ov : Int
  l : Int
  sp : Int
  ac : Int
  br : Int
def Drawn.of (l c m : List Int) : Drawn :=
  ⟨genL l, (rtG (genL l) c).st, genOv (genL l) c, min (1 + (⟨m, 0⟩ : Src).nx 4) 2, 5000 + 2500 * (⟨m, 0⟩ : Src).af.nx 12, 200 + 100 * (⟨m, 0⟩ : Src).af.af.nx 8, 200 + 100 * (⟨m, 0⟩ : Src).af.af.af.nx 8⟩
structure Drawn.Ok (d : Drawn) : Prop where
  lay : layErr d.L = 0
  fits : LayFits d.L
  len : d.st.length ≤ 7
  ov : 0 ≤ d.ov ∧ d.ov ≤ 2
theorem valid_fits {L : Lay} (h : Valid L) : LayFits L := by
  obtain ⟨n1, n2, n3, n4, n5, v1, v2, v3, v4⟩ := h
  refine ⟨fun x hx => ?_, fun x hx => ?_, fun x hx => ?_, by omega, by omega, by omega, by omega⟩
  · have := nameB_size (v1 x hx); omega
  · have := nameB_size (v2 x hx); omega
  · obtain ⟨y, hy, rfl⟩ := List.mem_map.1 hx
    have := nameB_size (v3 y hy).1; omega
theorem drawn_ok (l c m : List Int) (hc : c.length ≤ 9223372036854775807) : (Drawn.of l c m).Ok :=
  ⟨genL_ok l, valid_fits (valid_of (genL_ok l)), (gen_rt (genL l) c hc).2.2.1, (gen_rt (genL l) c hc).2.2.2⟩
abbrev Drawn.err (d : Drawn) : Int := fitErr d.L ⟨d.st, d.ov⟩ d.l d.sp d.ac d.br
abbrev Drawn.vs (d : Drawn) : SV := .tup [.agg [rStr d.L.sts, rStr d.L.pts, rSec d.L.secs, rLnk d.L.lnks], .agg [rStp d.st, xI d.ov], .agg [xS ⟨#[88]⟩, xI d.l, xI d.sp, xI d.ac, xI d.br], .c (xB (decide (d.err = 0)))]
theorem fitting_ok (l c m : List Int) (hl : l.length ≤ 9223372036854775807) (hc : c.length ≤ 9223372036854775807) (hm : m.length ≤ 9223372036854775807) : OkV Try.prog 10 [.c (rInt l), .c (rInt c), .c (rInt m)] [] (Drawn.of l c m).vs [] := by
  have h1 := layout_ok l hl
  have hv := genL_ok l
  have h2 := route_ok (genL l) (valid_of hv) (genL_secs l) c hc
  have h3 := stock_ok m hm
  have hb := gen_rt (genL l) c hc
  have h4 := refFits_ok (genL l) (valid_fits (valid_of hv)) (rtG (genL l) c).st (genOv (genL l) c) (by omega) (by omega) ⟨#[88]⟩ (min (1 + (⟨m, 0⟩ : Src).nx 4) 2) (5000 + 2500 * (⟨m, 0⟩ : Src).af.nx 12) (200 + 100 * (⟨m, 0⟩ : Src).af.af.nx 8) (200 + 100 * (⟨m, 0⟩ : Src).af.af.af.nx 8)
  unfold Drawn.vs Drawn.err Drawn.of
  simp only
  clear hb hv
  generalize genOv (genL l) c = ov at *
  generalize (rtG (genL l) c).st = st at *
  generalize genL l = L at *
  generalize (1 + ((⟨m, 0⟩ : Src).nx 4 : Int)) = k at *
  generalize (5000 + 2500 * ((⟨m, 0⟩ : Src).af.nx 12 : Int)) = sp at *
  generalize (200 + 100 * ((⟨m, 0⟩ : Src).af.af.nx 8 : Int)) = ac at *
  generalize (200 + 100 * ((⟨m, 0⟩ : Src).af.af.af.nx 8 : Int)) = br at *
  generalize fitErr L ⟨st, ov⟩ (min k 2) sp ac br = e at *
  unfold vLay at h1 h2 h4
  refine X_fnP mixedX Try.func10 rfl (by kernel_rfl) (Nat.le_of_ble_eq_true (by kernel_rfl)) (by kernel_rfl) rfl rfl ?_
  simp only [sl0, Nat.zero_add, Nat.reduceAdd]
  repeat' (first
    |with_reducible (first|refine q_and ?_ ?_|exact True.intro|exact TkEq.nil _|refine Red.o (by constructor) ?_|refine blockK_o' rfl ?_|refine LoopX_e' rfl ?_|assumption)
    |((with_reducible apply q_call);first|refine X_pure (h1) rfl ?_|refine X_pure (h2) rfl ?_|refine X_pure (h3) rfl ?_|refine X_pure (h4) rfl ?_)
    |((with_reducible apply q_CI);intro hbq;(try simp only [bq] at hbq);(try (exfalso;omega)))
    |with_reducible (first|refine W_seq ?_|refine W_block ?_)
    |((with_reducible apply q_cond);refine X_cond rfl ?_ ?_;all_goals (intro hbq;(try simp only [bq] at hbq);(try (exfalso;omega))))
    |refine Rex.o (by (with_reducible constructor);apply Eq.refl) ?_
    |(intro (hgq : (_ : Bool) = true);(try simp only [bq] at hgq))
    |(intro (hgq : (_ : Bool) = false);(try simp only [bq] at hgq))
    |((with_reducible apply q_VOk);exact fun _ => ⟨rfl,rfl⟩)|(intro _;exact rfl)|((with_reducible apply q_CRB);kernel_rfl)|((with_reducible apply q_bt);simp only [bq])|((with_reducible apply q_eqN);rfl)|((with_reducible apply q_FE);exact rfl)|with_reducible (first|exact isByte_wrap _|exact isByte_nat _)|(simp only [hgq,bq];done)|omega|(dsimp only;omega))
  · rfl
end Go.Proofs.Ytbpeakgihhdocaa.Av
namespace Go.Proofs.Ytbpeakgihhdocaa.Av
set_option linter.unusedVariables false
set_option linter.unusedSimpArgs false
abbrev secN (L : Lay) (ts : List Stp) (k : Nat) : Nat := (L.secs.getD (ts.getD k st0).sec.toNat sec0).len.toNat
def endA (L : Lay) (ts : List Stp) : Nat → Nat
  | 0 => 0
  | k + 1 => endA L ts k + secN L ts (k + 1)
def rideT (L : Lay) (r : Rte) (l sp ac br : Int) : Nat → Int := tim (celL L (trv r)) (celOne L r).toNat l.toNat sp ac br
structure Ride (L : Lay) (r : Rte) (l sp ac br : Int) : Prop where
  rt : RteOk L r
  cel : celErr L r = 0
  chk : chkB l sp ac br = true
  n : ((trv r).length : Int) = r.st.length - r.ov
  n2 : 2 ≤ (trv r).length
  n24 : (trv r).length ≤ 24
  sec : ∀ k, k < (trv r).length → 0 ≤ ((trv r).getD k st0).sec ∧ ((trv r).getD k st0).sec < L.secs.length
  len : ∀ k, k < (trv r).length → 2 ≤ secN L (trv r) k ∧ l ≤ secN L (trv r) k ∧ secN L (trv r) k ≤ 400
  leni : ∀ k, k < (trv r).length → (L.secs.getD ((trv r).getD k st0).sec.toNat sec0).len = secN L (trv r) k
  one : celOne L r = secN L (trv r) 0
  all : (celL L (trv r)).length = secN L (trv r) 0 + endA L (trv r) ((trv r).length - 1)
  bad : badRun (celL L (trv r)) (celOne L r) l sp ac br = 0
  tl : timeL (celL L (trv r)) (celOne L r) l sp ac br = row (endA L (trv r) ((trv r).length - 1) + 1) (rideT L r l sp ac br)
  rng : ∀ j, j ≤ endA L (trv r) ((trv r).length - 1) → 0 ≤ rideT L r l sp ac br j ∧ rideT L r l sp ac br j ≤ 80000000
theorem endA_mono (L : Lay) (ts : List Stp) {i j : Nat} (h : i ≤ j) : endA L ts i ≤ endA L ts j := by
  induction j with
  | zero => rw [Nat.le_zero.1 h]; exact Nat.le_refl _
  | succ j ih =>
    rcases Nat.lt_or_ge i (j + 1) with h1 | h1
    · exact Nat.le_trans (ih (by omega)) (Nat.le_add_right _ _)
    · rw [show i = j + 1 by omega]; exact Nat.le_refl _
theorem celL_endA (L : Lay) (ts : List Stp) : ∀ k, k < ts.length → (celL L (ts.take (k + 1))).length = secN L ts 0 + endA L ts k
  | 0, h => by
    rw [celL_snoc L h, List.length_append]
    simp [celL, celsOf, secN, endA]
  | k + 1, h => by
    rw [celL_snoc L h, List.length_append, celL_endA L ts k (by omega)]
    simp only [celsOf, List.length_replicate, endA, secN, secA]
    omega
theorem cel_all {L : Lay} (hV : Valid L) : ∀ {l : List Stp}, l.all (Stp.ok L) = true → (celL L l).all cellB = true
  | [], _ => rfl
  | s :: l, h => by
    rw [List.all_cons, Bool.and_eq_true] at h
    have ih := cel_all hV h.2
    obtain ⟨a, b, _⟩ := ok_dir h.1
    have h2 := secB_of (sec_of hV (i := s.sec.toNat) (by omega))
    unfold celL at ih ⊢
    rw [List.flatMap_cons, List.all_append, ih, Bool.and_true, List.all_eq_true]
    intro c hc
    rw [(List.mem_replicate.1 hc).2]
    unfold celOf cellB secA
    rw [decide_eq_true_eq]
    split <;> (simp only; omega)
theorem ride_of {L : Lay} {r : Rte} {l sp ac br : Int} (h : fitErr L r l sp ac br = 0) : Ride L r l sp ac br := by
  have hc : celErr L r = 0 := by
    unfold fitErr at h
    split at h
    · exact h
    · rename_i h2; simpa using h2
  unfold fitErr at h
  rw [if_neg (by simpa using hc)] at h
  by_cases hk : chkB l sp ac br = false
  · rw [if_pos hk] at h; cases h
  rw [if_neg hk] at h
  by_cases ht : (trv r).any (tight L l) = true
  · rw [if_pos ht] at h; cases h
  clear h
  have hk : chkB l sp ac br = true := by simpa using hk
  have hq := chk_of hk
  have hr := rte_of (cel_rte hc)
  have hV := valid_of hr.lay
  have hn := trv_len hr
  have h1 := hr.two
  have h2 := hr.ov0
  have h3 := hr.len
  have hok : (trv r).all (Stp.ok L) = true := all_take hr.ok _
  have hsec : ∀ k, k < (trv r).length → 0 ≤ ((trv r).getD k st0).sec ∧ ((trv r).getD k st0).sec < L.secs.length := fun k hk => by
    obtain ⟨a, b, _⟩ := ok_dir (all_at hok hk)
    exact ⟨a, b⟩
  have hb : ∀ k, k < (trv r).length → 1 ≤ (secA L ((trv r).getD k st0)).len ∧ (secA L ((trv r).getD k st0)).len ≤ 400 ∧ max 2 l ≤ (secA L ((trv r).getD k st0)).len := fun k hk => by
    have h4 := secB_of (sec_of hV (i := ((trv r).getD k st0).sec.toNat) (by have := hsec k hk; omega))
    have h5 : tight L l ((trv r).getD k st0) = false := by
      cases e : tight L l ((trv r).getD k st0)
      · rfl
      · exact absurd (any_at hk e) ht
    unfold tight at h5
    rw [decide_eq_false_iff_not] at h5
    exact ⟨h4.1, h4.2.1, by omega⟩
  have hlen : ∀ k, k < (trv r).length → 2 ≤ secN L (trv r) k ∧ l ≤ secN L (trv r) k ∧ secN L (trv r) k ≤ 400 := fun k hk => by
    have := hb k hk
    unfold secA at this
    unfold secN
    omega
  have hli : ∀ k, k < (trv r).length → (L.secs.getD ((trv r).getD k st0).sec.toNat sec0).len = secN L (trv r) k := fun k hk => by
    have := hb k hk
    unfold secA at this
    unfold secN
    omega
  have hall := celL_endA L (trv r) ((trv r).length - 1) (by omega)
  rw [show (trv r).length - 1 + 1 = (trv r).length by omega, List.take_length] at hall
  have hone : celOne L r = secN L (trv r) 0 := by
    unfold celOne
    rw [if_pos hc, ← hli 0 (by omega), trv_at hr (by omega)]
  have hc4 : (celL L (trv r)).length ≤ 4000 := by
    unfold celErr at hc
    rw [if_neg (by simpa using cel_rte hc)] at hc
    split at hc
    · cases hc
    · omega
  have he1 : endA L (trv r) 1 ≤ endA L (trv r) ((trv r).length - 1) := endA_mono L (trv r) (by omega)
  have he2 : endA L (trv r) 1 = secN L (trv r) 1 := Nat.zero_add _
  have hl1 := hlen 1 (by omega)
  have hbad : badRun (celL L (trv r)) (celOne L r) l sp ac br = 0 := bad_0 hk (by omega) (cel_all hV hok) (by rw [hone]; omega)
  have htl : timeL (celL L (trv r)) (celOne L r) l sp ac br = row (endA L (trv r) ((trv r).length - 1) + 1) (rideT L r l sp ac br) := by
    unfold timeL rideT
    rw [if_pos hbad, hall, hone, Int.toNat_natCast, Nat.add_sub_cancel_left]
  refine ⟨hr, hc, hk, hn, by omega, by omega, hsec, hlen, hli, hone, hall, hbad, htl, fun j hj => ?_⟩
  have h5 := tim_range (start := (celOne L r).toNat) (l := l.toNat) hq.2.2.1 hq.2.2.2.1 hq.2.2.2.2.1 hq.2.2.2.2.2.1 hq.2.2.2.2.2.2.1 hq.2.2.2.2.2.2.2 (cel_all hV hok) (by rw [hone, Int.toNat_natCast]; omega) j (by rw [hone, Int.toNat_natCast]; omega)
  unfold rideT
  omega
end Go.Proofs.Ytbpeakgihhdocaa.Av
namespace Go.Proofs.Ytbpeakgihhdocaa.Av
set_option linter.unusedVariables false
set_option linter.unusedSimpArgs false
set_option maxRecDepth 4000
set_option maxHeartbeats 4000000
def entL (L : Lay) (r : Rte) (l sp ac br : Int) (n : Nat) : List Int := row n fun k => rideT L r l sp ac br (endA L (trv r) (k - 1))
def levF (L : Lay) (r : Rte) (l sp ac br : Int) (k : Nat) : Int := rideT L r l sp ac br (if k + 1 < (trv r).length then endA L (trv r) k + l.toNat else endA L (trv r) k)
def levL (L : Lay) (r : Rte) (l sp ac br : Int) (n : Nat) : List Int := row n (levF L r l sp ac br)
def runI (L : Lay) (r : Rte) (l sp ac br : Int) : Int := Pl.cdiv (rideT L r l sp ac br (endA L (trv r) ((trv r).length - 1))) 1000
theorem row_snoc (n : Nat) (f : Nat → Int) : row (n + 1) f = row n f ++ [f n] := by
  unfold row; rw [List.range_succ, List.map_append]; rfl
theorem snoc_den (X : List Int) (v : Int) : (SC.c (CVal.f (FVal.row (List.flatMap fInt X ++ [FVal.v (.int .i64 v)]) (X.length + 1)))).den = (rInt (X ++ [v])).den := by
  show CVal.f (FVal.row (List.flatMap fInt X ++ [FVal.v (.int .i64 v)]) (X.length + 1)) = CVal.f (FVal.row (List.flatMap fInt (X ++ [v])) (X ++ [v]).length)
  rw [List.flatMap_append, List.length_append]
  rfl
theorem tup_snoc (A C D : SC) (X : List Int) (v : Int) : (packS [ST.c A, ST.c (SC.c (CVal.f (FVal.row (List.flatMap fInt X ++ [FVal.v (.int .i64 v)]) (X.length + 1)))), ST.c C, ST.c D]).den = (SV.tup [ST.c A, ST.c (rInt (X ++ [v])), ST.c C, ST.c D]).den := by
  show AVal.tup [.c A.den, .c (SC.den _), .c C.den, .c D.den] = AVal.tup [.c A.den, .c (SC.den _), .c C.den, .c D.den]
  rw [snoc_den]
theorem up_ok (a : Int) (ha : -9223372036854775808 ≤ a ∧ a ≤ 9223372036854775807) : OkV Try.prog 34 [.c (xI a)] [] (vI (Pl.cdiv a 1000)) [] := by
  have h := ceilDiv_okV a 1000 ha (by omega)
  refine X_fn mixedX Try.func34 rfl (by kernel_rfl) (Nat.le_of_ble_eq_true (by kernel_rfl)) (by kernel_rfl) rfl rfl (Nat.le_of_ble_eq_true rfl) rfl rfl ?_
  simp only [sl0, Nat.zero_add, Nat.reduceAdd]
  repeat' (first
    |with_reducible (first|refine q_and ?_ ?_|exact True.intro|exact TkEq.nil _|refine Red.o (by constructor) ?_|refine blockK_o' rfl ?_|refine LoopX_e' rfl ?_|assumption)
    |((with_reducible apply q_call);refine X_pure (h) rfl ?_)
    |((with_reducible apply q_CI);intro hbq;(try simp only [bq] at hbq);(try (exfalso;omega)))
    |refine Rex.o (by (with_reducible constructor);apply Eq.refl) ?_
    |(intro (hgq : (_ : Bool) = true);(try simp only [bq] at hgq))
    |(intro (hgq : (_ : Bool) = false);(try simp only [bq] at hgq))
    |((with_reducible apply q_VOk);exact fun _ => ⟨rfl,rfl⟩)|(intro _;exact rfl)|((with_reducible apply q_CRB);kernel_rfl)|((with_reducible apply q_bt);simp only [bq])|((with_reducible apply q_eqN);rfl)|((with_reducible apply q_FE);exact rfl)|with_reducible (first|exact isByte_wrap _|exact isByte_nat _)|(simp only [hgq,bq];done)|omega|(dsimp only;omega))
  repeat' (first|with_reducible (first|refine Wk.o (by constructor) ?_|refine q_and ?_ ?_|exact True.intro)|refine VEq.c ?_|refine VEq.agg ?_|refine VEq.tup ?_|refine TkEq.cells ?_ ?_|refine TkEq.els ?_ ?_|refine SEqL.cons ?_ ?_|refine TEqL.agg ?_ ?_|refine CEq.rows ?_|refine CEq.int ?_|rfl|omega)
theorem btimes_bad (L : Lay) (hL : LayFits L) (st : List Stp) (ov : Int) (hl : st.length ≤ 4611686018427387904) (ho : -9223372036854775807 ≤ ov ∧ ov ≤ 9223372036854775807) (nm : ByteArray) (l sp ac br : Int) (h : ¬ fitErr L ⟨st, ov⟩ l sp ac br = 0) : OkV Try.prog 12 [vLay L, vR2 st ov, vS5 nm l sp ac br] [] (.tup [.c (rInt []), .c (rInt []), .c (xI 0), .c (xI (fitErr L ⟨st, ov⟩ l sp ac br))]) [] := by
  have hF := fit_ok L hL st ov hl ho nm l sp ac br
  rw [if_neg h, if_neg h] at hF
  unfold vLay at hF ⊢
  refine X_fn mixedX Try.func12 rfl (by kernel_rfl) (Nat.le_of_ble_eq_true (by kernel_rfl)) (by kernel_rfl) rfl rfl (Nat.le_of_ble_eq_true rfl) rfl rfl ?_
  simp only [sl0, Nat.zero_add, Nat.reduceAdd]
  repeat' (first
    |with_reducible (first|refine q_and ?_ ?_|exact True.intro|exact TkEq.nil _|refine Red.o (by constructor) ?_|refine blockK_o' rfl ?_|refine LoopX_e' rfl ?_|assumption)
    |((with_reducible apply q_call);refine X_pure (hF) rfl ?_)
    |((with_reducible apply q_CI);intro hbq;(try simp only [bq] at hbq);(try (exfalso;omega)))
    |refine Rex.o (by (with_reducible constructor);apply Eq.refl) ?_
    |(intro (hgq : (_ : Bool) = true);(try simp only [bq] at hgq))
    |(intro (hgq : (_ : Bool) = false);(try simp only [bq] at hgq))
    |((with_reducible apply q_VOk);exact fun _ => ⟨rfl,rfl⟩)|(intro _;exact rfl)|((with_reducible apply q_CRB);kernel_rfl)|((with_reducible apply q_bt);simp only [bq])|((with_reducible apply q_eqN);rfl)|((with_reducible apply q_FE);exact rfl)|with_reducible (first|exact isByte_wrap _|exact isByte_nat _)|(simp only [hgq,bq];done)|omega|(dsimp only;omega))
  · rfl
theorem btimes_ok (L : Lay) (hL : LayFits L) (st : List Stp) (ov : Int) (hl : st.length ≤ 4611686018427387904) (ho : -9223372036854775807 ≤ ov ∧ ov ≤ 9223372036854775807) (nm : ByteArray) (l sp ac br : Int) (h : fitErr L ⟨st, ov⟩ l sp ac br = 0) : OkV Try.prog 12 [vLay L, vR2 st ov, vS5 nm l sp ac br] [] (.tup [.c (rInt (entL L ⟨st, ov⟩ l sp ac br (trv ⟨st, ov⟩).length)), .c (rInt (levL L ⟨st, ov⟩ l sp ac br (trv ⟨st, ov⟩).length)), .c (xI (runI L ⟨st, ov⟩ l sp ac br)), .c (xI 0)]) [] := by
  have hF := fit_ok L hL st ov hl ho nm l sp ac br
  rw [h, if_pos rfl, if_pos rfl] at hF
  have hR := ride_of h
  obtain ⟨r1, r2, r3, r4, r5, r6, r7, r8, r9, r10, r11, r12, r13, r14⟩ := hR
  have hq := chk_of r3
  have hr1 := r1.ov0
  have hr2 := r1.two
  simp only at hr1 hr2 r4
  have hn3 := (valid_of r1.lay).n3
  have hm := times_ok (celL L (trv ⟨st, ov⟩)) (celOne L ⟨st, ov⟩) nm l sp ac br (by
    have := (bad_zero r12).2.1; omega)
  rw [r13, r12] at hm
  have hT := travelled_ok st ov hl ⟨by omega, by omega⟩
  unfold entL levL levF runI
  generalize hT' : rideT L ⟨st, ov⟩ l sp ac br = T at *
  generalize hts : trv ⟨st, ov⟩ = ts at *
  unfold vLay at hF ⊢
  refine X_fn mixedX Try.func12 rfl (by kernel_rfl) (Nat.le_of_ble_eq_true (by kernel_rfl)) (by kernel_rfl) rfl rfl (Nat.le_of_ble_eq_true rfl) rfl rfl ?_
  simp only [sl0, Nat.zero_add, Nat.reduceAdd]
  repeat' (first
    |with_reducible (first|refine q_and ?_ ?_|exact True.intro|exact TkEq.nil _|refine Red.o (by constructor) ?_|refine blockK_o' rfl ?_|refine LoopX_e' rfl ?_|assumption)
    |((with_reducible apply q_call);first|refine X_pure (hF) rfl ?_|refine X_pure (hm) rfl ?_|refine X_pure (hT) rfl ?_)
    |((with_reducible apply q_CI);intro hbq;(try simp only [bq] at hbq);(try (exfalso;omega)))
    |refine Rex.o (by (with_reducible constructor);apply Eq.refl) ?_
    |(intro (hgq : (_ : Bool) = true);(try simp only [bq] at hgq))
    |(intro (hgq : (_ : Bool) = false);(try simp only [bq] at hgq))
    |((with_reducible apply q_VOk);exact fun _ => ⟨rfl,rfl⟩)|(intro _;exact rfl)|((with_reducible apply q_CRB);kernel_rfl)|((with_reducible apply q_bt);simp only [bq])|((with_reducible apply q_eqN);rfl)|((with_reducible apply q_FE);exact rfl)|with_reducible (first|exact isByte_wrap _|exact isByte_nat _)|(simp only [hgq,bq];done)|omega|(dsimp only;omega))
  clear hF hm hT r13 r12 r11 r10
  have hrl : (row (endA L ts (ts.length - 1) + 1) T).length = _ := row_len _ _
  have hE : ∀ j, j + 1 ≤ ts.length → endA L ts j ≤ endA L ts (ts.length - 1) := fun j hj => endA_mono L ts (by omega)
  have hEb : endA L ts (ts.length - 1) ≤ 400 * 24 := by
    have : ∀ j, j + 1 ≤ ts.length → endA L ts j ≤ 400 * j := by
      intro j
      induction j with
      | zero => intro _; exact Nat.le_refl _
      | succ j ih => intro hj; have := ih (by omega); have := (r8 (j + 1) (by omega)).2.2; simp only [endA]; omega
    have := this (ts.length - 1) (by omega)
    omega
  refine W_loopS (fun k : Nat => SS [sC 3 (pB 0), sC 5 (pB 2), sC 6 (tInt (row k fun k => T (endA L ts (k - 1)))), sC 7 (tInt (row (min k (ts.length - 1)) fun k => T (endA L ts k + l.toNat))), sC 11 (rInt (row (endA L ts (ts.length - 1) + 1) T)), sC 13 (rStp ts), sI 14 (endA L ts (k - 1)), sC 38 (rStp ts), sI 39 ts.length, sI 40 k] [bLay L, none, bS5 nm l sp ac br]) (fun k => k ≤ ts.length) (fun k => ts.length - k) 0 ?_ (by omega) ?_
  ·
    refine X_weak rfl rfl rfl ?_ ?_ <;> repeat' (first|with_reducible (first|refine Wk.o (by constructor) ?_|refine q_and ?_ ?_|exact True.intro)|refine q_AgS rfl ?_ ?_|exact CLe.nil_tipS|exact CLe.nil_rowS|refine HLe.cells ?_ ?_|refine HLe.els ?_ ?_|refine SLe.cons ?_ ?_|exact (rfl : known _ = _)|with_reducible rfl|omega)
    all_goals rfl
  intro k hk
  have hl1 := row_len k fun k => T (endA L ts (k - 1))
  have hl2 := row_len (min k (ts.length - 1)) fun k => T (endA L ts k + l.toNat)
  by_cases hkn : k < ts.length
  · have f0 := hE (k - 1) (by omega)
    have f2 := hE k (by omega)
    have f1 : 0 < k → endA L ts k = endA L ts (k - 1) + secN L ts k := fun h => by
      obtain ⟨j, rfl⟩ : ∃ j, k = j + 1 := ⟨k - 1, by omega⟩
      rfl
    have f3 : k + 1 < ts.length → endA L ts k + l.toNat ≤ endA L ts (ts.length - 1) := fun h => by
      have a := hE (k + 1) (by omega)
      have b := (r8 (k + 1) h).2.1
      simp only [endA] at a
      omega
    have g1 : 0 ≤ (ts.getD (k : Int).toNat { sec := 0, dir := 0 }).sec ∧ (ts.getD (k : Int).toNat { sec := 0, dir := 0 }).sec < L.secs.length := r7 k hkn
    have g2 : (L.secs.getD (ts.getD (k : Int).toNat { sec := 0, dir := 0 }).sec.toNat sec0).len = (secN L ts k : Nat) := r9 k hkn
    have g3 := r8 k hkn
    generalize secN L ts k = sk at *
    have hex : (row (endA L ts (ts.length - 1) + 1) T).getD ((endA L ts (k - 1) : Nat) : Int).toNat 0 = T (endA L ts (k - 1)) := by rw [Int.toNat_natCast, row_get (by omega)]
    have f5 : endA L ts (k + 1 - 1) = endA L ts k := rfl
    have f6 : k = 0 → endA L ts (k - 1) = endA L ts k := fun h => by rw [h]
    have m1 : k + 1 < ts.length → min (k + 1) (ts.length - 1) = min k (ts.length - 1) + 1 := fun h => by omega
    have m2 : k + 1 < ts.length → min k (ts.length - 1) = k := fun h => by omega
    have m3 : ¬ k + 1 < ts.length → min (k + 1) (ts.length - 1) = min k (ts.length - 1) := fun h => by omega
    repeat' (first
      |with_reducible (first|refine q_and ?_ ?_|exact True.intro|exact TkEq.nil _|refine Red.o (by constructor) ?_|refine blockK_o' rfl ?_|refine LoopX_e' rfl ?_|assumption)
      |((with_reducible apply q_CI);intro hbq;(try simp only [bq] at hbq);(try (exfalso;omega)))
      |refine Rex.o (by (with_reducible constructor);apply Eq.refl) ?_
      |(intro (hgq : (_ : Bool) = true);(try simp only [bq] at hgq))
      |(intro (hgq : (_ : Bool) = false);(try simp only [bq] at hgq))
      |((with_reducible apply q_VOk);exact fun _ => ⟨rfl,rfl⟩)|(intro _;exact rfl)|((with_reducible apply q_CRB);kernel_rfl)|((with_reducible apply q_bt);simp only [bq])|((with_reducible apply q_eqN);rfl)|((with_reducible apply q_FE);exact rfl)|with_reducible (first|exact isByte_wrap _|exact isByte_nat _)|(simp only [hgq,bq];done)|omega|(dsimp only;omega))
    · have c : k + 1 < ts.length := by omega
      have hex2 : (row (endA L ts (ts.length - 1) + 1) T).getD ((endA L ts (k - 1) : Nat) + (L.secs.getD (ts.getD (k : Int).toNat { sec := 0, dir := 0 }).sec.toNat sec0).len + l).toNat 0 = T (endA L ts k + l.toNat) := by
        rw [show ((endA L ts (k - 1) : Nat) + (L.secs.getD (ts.getD (k : Int).toNat { sec := 0, dir := 0 }).sec.toNat sec0).len + l).toNat = endA L ts k + l.toNat by omega, row_get (by omega)]
      refine LoopK_n (k + 1) ?_ ((by omega)) (by (try dsimp only); omega)
      refine X_weak rfl rfl rfl ?_ ?_ <;> repeat' (first|with_reducible (first|refine Wk.o (by constructor) ?_|refine q_and ?_ ?_|exact True.intro)|refine q_AgS rfl ?_ ?_|exact CLe.nil_tipS|exact CLe.nil_rowS|refine HLe.cells ?_ ?_|refine HLe.els ?_ ?_|refine SLe.cons ?_ ?_|exact (rfl : known _ = _)|with_reducible rfl|omega)
      · rw [hex, row_snoc]; simp [fInt, fI]
      · rw [row_len, row_len]
      · rw [hex2, m1 c, row_snoc, m2 c]; simp [fInt, fI]
      · rw [row_len, row_len, m1 c]
    · have c : ¬ k + 1 < ts.length := by omega
      refine LoopK_n (k + 1) ?_ ((by omega)) (by (try dsimp only); omega)
      refine X_weak rfl rfl rfl ?_ ?_ <;> repeat' (first|with_reducible (first|refine Wk.o (by constructor) ?_|refine q_and ?_ ?_|exact True.intro)|refine q_AgS rfl ?_ ?_|exact CLe.nil_tipS|exact CLe.nil_rowS|refine HLe.cells ?_ ?_|refine HLe.els ?_ ?_|refine SLe.cons ?_ ?_|exact (rfl : known _ = _)|with_reducible rfl|omega)
      · rw [hex, row_snoc]; simp [fInt, fI]
      · rw [row_len, row_len]
      · rw [m3 c]
    · have c : k + 1 < ts.length := by omega
      have hex2 : (row (endA L ts (ts.length - 1) + 1) T).getD ((endA L ts (k - 1) : Nat) + l).toNat 0 = T (endA L ts k + l.toNat) := by
        rw [show ((endA L ts (k - 1) : Nat) + l).toNat = endA L ts k + l.toNat by omega, row_get (by omega)]
      refine LoopK_n (k + 1) ?_ ((by omega)) (by (try dsimp only); omega)
      refine X_weak rfl rfl rfl ?_ ?_ <;> repeat' (first|with_reducible (first|refine Wk.o (by constructor) ?_|refine q_and ?_ ?_|exact True.intro)|refine q_AgS rfl ?_ ?_|exact CLe.nil_tipS|exact CLe.nil_rowS|refine HLe.cells ?_ ?_|refine HLe.els ?_ ?_|refine SLe.cons ?_ ?_|exact (rfl : known _ = _)|with_reducible rfl|omega)
      · rw [hex, row_snoc]; simp [fInt, fI]
      · rw [row_len, row_len]
      · rw [hex2, m1 c, row_snoc, m2 c]; simp [fInt, fI]
      · rw [row_len, row_len, m1 c]
  · have hkn : k = ts.length := by omega
    subst hkn
    have hex : (row (endA L ts (ts.length - 1) + 1) T).getD ((endA L ts (ts.length - 1) : Nat) : Int).toNat 0 = T (endA L ts (ts.length - 1)) := by rw [Int.toNat_natCast, row_get (by omega)]
    have hr := r14 _ (Nat.le_refl _)
    have hU := up_ok ((row (endA L ts (ts.length - 1) + 1) T).getD ((endA L ts (ts.length - 1) : Nat) : Int).toNat 0) (by rw [hex]; omega)
    repeat' (first
      |with_reducible (first|refine q_and ?_ ?_|exact True.intro|exact TkEq.nil _|refine Red.o (by constructor) ?_|refine blockK_o' rfl ?_|refine LoopX_e' rfl ?_|assumption)
      |((with_reducible apply q_call);refine X_pure (hU) rfl ?_)
      |((with_reducible apply q_CI);intro hbq;(try simp only [bq] at hbq);(try (exfalso;omega)))
      |refine Rex.o (by (with_reducible constructor);apply Eq.refl) ?_
      |(intro (hgq : (_ : Bool) = true);(try simp only [bq] at hgq))
      |(intro (hgq : (_ : Bool) = false);(try simp only [bq] at hgq))
      |((with_reducible apply q_VOk);exact fun _ => ⟨rfl,rfl⟩)|(intro _;exact rfl)|((with_reducible apply q_CRB);kernel_rfl)|((with_reducible apply q_bt);simp only [bq])|((with_reducible apply q_eqN);rfl)|((with_reducible apply q_FE);exact rfl)|with_reducible (first|exact isByte_wrap _|exact isByte_nat _)|(simp only [hgq,bq];done)|omega|(dsimp only;omega))
    have hlev : (row ts.length fun k => T (if k + 1 < ts.length then endA L ts k + l.toNat else endA L ts k)) = (row (min ts.length (ts.length - 1)) fun k => T (endA L ts k + l.toNat)) ++ [T (endA L ts (ts.length - 1))] := by
      have e : ts.length = ts.length - 1 + 1 := by omega
      rw [Nat.min_eq_right (by omega)]
      conv => lhs; rw [show row ts.length = row (ts.length - 1 + 1) by rw [← e]]
      rw [row_snoc, if_neg (by omega)]
      congr 1
      exact row_ext fun j hj => by rw [if_pos (by omega)]
    rw [hlev]
    simp only [hex]
    apply tup_snoc
end Go.Proofs.Ytbpeakgihhdocaa.Av
namespace Go.Proofs.Ytbpeakgihhdocaa.Av
set_option linter.unusedVariables false
set_option linter.unusedSimpArgs false
section
variable (L : Lay) (r : Rte) (l sp ac br bf af : Int)
def entF (k : Nat) : Int := rideT L r l sp ac br (endA L (trv r) (k - 1))
end
theorem ride_mono {L : Lay} {r : Rte} {l sp ac br : Int} (h : Ride L r l sp ac br) {i j : Nat} (hij : i ≤ j) (hj : j ≤ endA L (trv r) ((trv r).length - 1)) : rideT L r l sp ac br i ≤ rideT L r l sp ac br j := by
  have hq := chk_of h.chk
  have hb := bad_zero h.bad
  have ha := h.all
  have ho := h.one
  induction j with
  | zero => rw [Nat.le_zero.1 hij]; exact Int.le_refl _
  | succ j ih =>
    rcases Nat.lt_or_ge i (j + 1) with h1 | h1
    · refine Int.le_trans (ih (by omega) (by omega)) ?_
      have := step_range (start := (celOne L r).toNat) (l := l.toNat) hq.2.2.1 hq.2.2.2.1 hq.2.2.2.2.1 hq.2.2.2.2.2.1 hq.2.2.2.2.2.2.1 hq.2.2.2.2.2.2.2 hb.2.2.1 (by omega) j (by omega)
      unfold rideT
      simp only [tim]
      omega
    · rw [show i = j + 1 by omega]; exact Int.le_refl _
section
variable {L : Lay} {r : Rte} {l sp ac br bf af : Int} (h : Ride L r l sp ac br)
include h
theorem lev_in {j : Nat} (hj : j < (trv r).length) : endA L (trv r) j ≤ (if j + 1 < (trv r).length then endA L (trv r) j + l.toNat else endA L (trv r) j) ∧ (if j + 1 < (trv r).length then endA L (trv r) j + l.toNat else endA L (trv r) j) ≤ endA L (trv r) ((trv r).length - 1) := by
  have a := endA_mono L (trv r) (show j ≤ (trv r).length - 1 by omega)
  split
  · rename_i c
    have b := endA_mono L (trv r) (show j + 1 ≤ (trv r).length - 1 by omega)
    have d := (h.len (j + 1) c).2.1
    have hq := chk_of h.chk
    simp only [endA] at b
    omega
  · omega
end
end Go.Proofs.Ytbpeakgihhdocaa.Av
namespace Go.Proofs.Ytbpeakgihhdocaa.Av
set_option linter.unusedVariables false
set_option linter.unusedSimpArgs false
section
variable {L : Lay} {r : Rte} {l sp ac br : Int} (h : Ride L r l sp ac br)
include h
theorem ride_lt {i j : Nat} (hij : i < j) (hj : j ≤ endA L (trv r) ((trv r).length - 1)) : rideT L r l sp ac br i < rideT L r l sp ac br j := by
  have a := ride_mono h (i := i + 1) (j := j) (by omega) hj
  have hq := chk_of h.chk
  have hb := bad_zero h.bad
  have hall := h.all
  have ho := h.one
  have b := step_range (start := (celOne L r).toNat) (l := l.toNat) hq.2.2.1 hq.2.2.2.1 hq.2.2.2.2.1 hq.2.2.2.2.2.1 hq.2.2.2.2.2.2.1 hq.2.2.2.2.2.2.2 hb.2.2.1 (by omega) i (by omega)
  unfold rideT at a ⊢
  simp only [tim] at a
  omega
theorem endA_lt {i j : Nat} (hij : i < j) (hj : j < (trv r).length) : endA L (trv r) i < endA L (trv r) j := by
  have a := endA_mono L (trv r) (show i + 1 ≤ j by omega)
  have b := (h.len (i + 1) (by omega)).1
  simp only [endA] at a
  omega
theorem ent_lt {i : Nat} (h1 : 1 < i) (hi : i < (trv r).length) : entF L r l sp ac br (i - 1) < entF L r l sp ac br i := by
  unfold entF
  have a := endA_lt h (i := i - 1 - 1) (j := i - 1) (by omega) (by omega)
  have b := endA_mono L (trv r) (show i - 1 ≤ (trv r).length - 1 by omega)
  exact ride_lt h a b
theorem ent_le {i : Nat} (h1 : 0 < i) (hi : i < (trv r).length) : entF L r l sp ac br (i - 1) ≤ entF L r l sp ac br i := by
  unfold entF
  have a := endA_mono L (trv r) (show i - 1 - 1 ≤ i - 1 by omega)
  have b := endA_mono L (trv r) (show i - 1 ≤ (trv r).length - 1 by omega)
  exact ride_mono h a b
theorem ent_lt_lev {i : Nat} (hi : i < (trv r).length) : entF L r l sp ac br i < levF L r l sp ac br i := by
  have hq := chk_of h.chk
  have hn := h.n2
  have hv := lev_in h hi
  unfold entF levF
  refine ride_lt h ?_ hv.2
  rcases Nat.eq_zero_or_pos i with h0 | h0
  · subst h0
    rw [if_pos (by omega)]
    have : endA L (trv r) (0 - 1) = 0 := rfl
    omega
  · have := endA_lt h (i := i - 1) (j := i) (by omega) hi
    omega
theorem lev_le {i : Nat} (h1 : 0 < i) (hi : i < (trv r).length) : levF L r l sp ac br (i - 1) ≤ levF L r l sp ac br i := by
  have a := lev_in h (j := i - 1) (by omega)
  have b := lev_in h hi
  have c := endA_mono L (trv r) (show i - 1 ≤ i by omega)
  have d := (h.len i hi).2.1
  have hq := chk_of h.chk
  have e : endA L (trv r) i = endA L (trv r) (i - 1) + secN L (trv r) i := by
    obtain ⟨j, rfl⟩ : ∃ j, i = j + 1 := ⟨i - 1, by omega⟩
    rfl
  unfold levF
  refine ride_mono h ?_ b.2
  rw [if_pos (by omega)]
  split <;> omega
theorem lev_last : levF L r l sp ac br ((trv r).length - 1) = rideT L r l sp ac br (endA L (trv r) ((trv r).length - 1)) := by
  have hn := h.n2
  unfold levF
  rw [if_neg (by omega)]
end
end Go.Proofs.Ytbpeakgihhdocaa.Av
namespace Go.Proofs.Ytbpeakgihhdocaa.Av
set_option linter.unusedVariables false
set_option linter.unusedSimpArgs false
set_option maxRecDepth 4000
set_option maxHeartbeats 4000000
theorem timesAscend_ok (l c m : List Int) (hl : l.length ≤ 9223372036854775807) (hc : c.length ≤ 9223372036854775807) (hm : m.length ≤ 9223372036854775807) : OkV Try.prog 3 [.c (rInt l), .c (rInt c), .c (rInt m)] [] (vB true) [] := by
  have hA := awake_ok
  have hF := fitting_ok l c m hl hc hm
  have hD := drawn_ok l c m hc
  generalize Drawn.of l c m = d at *
  obtain ⟨L, st, ov, ln, sp, ac, br⟩ := d
  obtain ⟨d1, d2, d3, d4⟩ := hD
  simp only at d1 d2 d3 d4
  unfold Drawn.vs Drawn.err at hF
  simp only at hF
  by_cases h : fitErr L ⟨st, ov⟩ ln sp ac br = 0
  · rw [h] at hF
    have hT := btimes_ok L d2 st ov (by omega) (by omega) ⟨#[88]⟩ ln sp ac br h
    have hR := ride_of h
    have hn := hR.n
    have hn2 := hR.n2
    simp only at hn
    have hE1 := row_len (trv ⟨st, ov⟩).length fun k => rideT L ⟨st, ov⟩ ln sp ac br (endA L (trv ⟨st, ov⟩) (k - 1))
    have hE2 : ∀ k, k < (trv ⟨st, ov⟩).length → (entL L ⟨st, ov⟩ ln sp ac br (trv ⟨st, ov⟩).length).getD k 0 = entF L ⟨st, ov⟩ ln sp ac br k := fun k hk => row_get hk
    have hL1 := row_len (trv ⟨st, ov⟩).length (levF L ⟨st, ov⟩ ln sp ac br)
    have hL2 : ∀ k, k < (trv ⟨st, ov⟩).length → (levL L ⟨st, ov⟩ ln sp ac br (trv ⟨st, ov⟩).length).getD k 0 = levF L ⟨st, ov⟩ ln sp ac br k := fun k hk => row_get hk
    change (entL L ⟨st, ov⟩ ln sp ac br (trv ⟨st, ov⟩).length).length = _ at hE1
    change (levL L ⟨st, ov⟩ ln sp ac br (trv ⟨st, ov⟩).length).length = _ at hL1
    generalize entL L ⟨st, ov⟩ ln sp ac br (trv ⟨st, ov⟩).length = es at *
    generalize levL L ⟨st, ov⟩ ln sp ac br (trv ⟨st, ov⟩).length = lv at *
    have e0 : es.getD (0 : Int).toNat 0 = 0 := hE2 0 (by omega)
    have e1 : es.getD (1 : Int).toNat 0 = 0 := hE2 1 (by omega)
    have e2 : lv.getD ((st.length : Int) - ov - 1).toNat 0 = rideT L ⟨st, ov⟩ ln sp ac br (endA L (trv ⟨st, ov⟩) ((trv ⟨st, ov⟩).length - 1)) := by
      rw [show ((st.length : Int) - ov - 1).toNat = (trv ⟨st, ov⟩).length - 1 by omega, hL2 _ (by omega), lev_last hR]
    have hrg := hR.rng _ (Nat.le_refl (endA L (trv ⟨st, ov⟩) ((trv ⟨st, ov⟩).length - 1)))
    have hC := refCeil_okV (lv.getD ((st.length : Int) - ov - 1).toNat 0) 1000 (by rw [e2]; omega) (by omega)
    have e3 : Pl.cdiv (lv.getD ((st.length : Int) - ov - 1).toNat 0) 1000 = runI L ⟨st, ov⟩ ln sp ac br := by rw [e2]; rfl
    rw [e3] at hC
    have k1 : ∀ i, i < (trv ⟨st, ov⟩).length → es.getD i 0 < lv.getD i 0 := fun i hi => by rw [hE2 i hi, hL2 i hi]; exact ent_lt_lev hR hi
    have k2 : ∀ i, 0 < i → i < (trv ⟨st, ov⟩).length → lv.getD ((i : Int) - 1).toNat 0 ≤ lv.getD i 0 ∧ es.getD ((i : Int) - 1).toNat 0 ≤ es.getD i 0 := fun i h0 hi => by
      rw [show ((i : Int) - 1).toNat = i - 1 by omega, hE2 i hi, hL2 i hi, hE2 _ (by omega), hL2 _ (by omega)]
      exact ⟨lev_le hR h0 hi, ent_le hR h0 hi⟩
    have k3 : ∀ i, 1 < i → i < (trv ⟨st, ov⟩).length → es.getD ((i : Int) - 1).toNat 0 < es.getD i 0 := fun i h0 hi => by
      rw [show ((i : Int) - 1).toNat = i - 1 by omega, hE2 i hi, hE2 _ (by omega)]
      exact ent_lt hR h0 hi
    clear hE2 hL2 e2 e3 hrg hR h
    generalize runI L ⟨st, ov⟩ ln sp ac br = run at *
    generalize (trv ⟨st, ov⟩).length = n at *
    unfold vLay at hT
    refine X_fnP mixedX Try.func3 rfl (by kernel_rfl) (Nat.le_of_ble_eq_true (by kernel_rfl)) (by kernel_rfl) rfl rfl ?_
    simp only [sl0, Nat.zero_add, Nat.reduceAdd]
    repeat' (first
      |with_reducible (first|refine q_and ?_ ?_|exact True.intro|exact TkEq.nil _|refine Red.o (by constructor) ?_|refine blockK_o' rfl ?_|refine LoopX_e' rfl ?_|assumption)
      |((with_reducible apply q_call);first|refine X_pure (hF) rfl ?_|refine X_pure (hT) rfl ?_|refine X_pure (hA) rfl ?_)
      |((with_reducible apply q_callG);refine X_pureG ((fun _ => hC)) rfl ?_ ?_)
      |((with_reducible apply q_CI);intro hbq;(try simp only [bq] at hbq);(try (exfalso;omega)))
      |with_reducible (first|refine W_seq ?_|refine W_block ?_)
      |((with_reducible apply q_cond);refine X_cond rfl ?_ ?_;all_goals (intro hbq;(try simp only [bq] at hbq);(try (exfalso;omega))))
      |refine Rex.o (by (with_reducible constructor);apply Eq.refl) ?_
      |(intro (hgq : (_ : Bool) = true);(try simp only [bq] at hgq))
      |(intro (hgq : (_ : Bool) = false);(try simp only [bq] at hgq))
      |((with_reducible apply q_VOk);exact fun _ => ⟨rfl,rfl⟩)|(intro _;exact rfl)|((with_reducible apply q_CRB);kernel_rfl)|((with_reducible apply q_bt);simp only [bq])|((with_reducible apply q_eqN);rfl)|((with_reducible apply q_FE);exact rfl)|with_reducible (first|exact isByte_wrap _|exact isByte_nat _)|(simp only [hgq,bq];done)|omega|(dsimp only;omega))
    refine W_loopS (fun i : Nat => SS [sC 11 (rInt es), sC 12 (rInt lv), sI 15 ((st.length : Int) - ov), sI 16 i] []) (fun i => i ≤ n) (fun i => n - i) 0 ?_ (by omega) ?_
    ·
      refine X_weak rfl rfl rfl ?_ ?_ <;> repeat' (first|with_reducible (first|refine Wk.o (by constructor) ?_|refine q_and ?_ ?_|exact True.intro)|refine q_AgS rfl ?_ ?_|exact CLe.nil_tipS|exact CLe.nil_rowS|refine HLe.cells ?_ ?_|refine HLe.els ?_ ?_|refine SLe.cons ?_ ?_|exact (rfl : known _ = _)|with_reducible rfl|omega)
    intro i hi
    by_cases hil : i < n
    · have q1 : es.getD (i : Int).toNat 0 < lv.getD (i : Int).toNat 0 := k1 i hil
      have q2 : 0 < i → lv.getD ((i : Int) - 1).toNat 0 ≤ lv.getD (i : Int).toNat 0 ∧ es.getD ((i : Int) - 1).toNat 0 ≤ es.getD (i : Int).toNat 0 := fun h => k2 i h hil
      have q3 : 1 < i → es.getD ((i : Int) - 1).toNat 0 < es.getD (i : Int).toNat 0 := fun h => k3 i h hil
      repeat' (first
        |with_reducible (first|refine q_and ?_ ?_|exact True.intro|exact TkEq.nil _|refine Red.o (by constructor) ?_|refine blockK_o' rfl ?_|refine LoopX_e' rfl ?_|assumption)
        |((with_reducible apply q_CI);intro hbq;(try simp only [bq] at hbq);(try (exfalso;omega)))
        |with_reducible (first|refine W_seq ?_|refine W_block ?_)
        |((with_reducible apply q_cond);refine X_cond rfl ?_ ?_;all_goals (intro hbq;(try simp only [bq] at hbq);(try (exfalso;omega))))
        |refine Rex.o (by (with_reducible constructor);apply Eq.refl) ?_
        |(intro (hgq : (_ : Bool) = true);(try simp only [bq] at hgq))
        |(intro (hgq : (_ : Bool) = false);(try simp only [bq] at hgq))
        |((with_reducible apply q_VOk);exact fun _ => ⟨rfl,rfl⟩)|(intro _;exact rfl)|((with_reducible apply q_CRB);kernel_rfl)|((with_reducible apply q_bt);simp only [bq])|((with_reducible apply q_eqN);rfl)|((with_reducible apply q_FE);exact rfl)|with_reducible (first|exact isByte_wrap _|exact isByte_nat _)|(simp only [hgq,bq];done)|omega|(dsimp only;omega))
      ·
        refine LoopK_n (i + 1) ?_ ((by omega)) (by (try dsimp only); omega)
        refine X_weak rfl rfl rfl ?_ ?_ <;> repeat' (first|with_reducible (first|refine Wk.o (by constructor) ?_|refine q_and ?_ ?_|exact True.intro)|refine q_AgS rfl ?_ ?_|exact CLe.nil_tipS|exact CLe.nil_rowS|refine HLe.cells ?_ ?_|refine HLe.els ?_ ?_|refine SLe.cons ?_ ?_|exact (rfl : known _ = _)|with_reducible rfl|omega)
    · have hie : i = n := by omega
      repeat' (first
        |with_reducible (first|refine q_and ?_ ?_|exact True.intro|exact TkEq.nil _|refine Red.o (by constructor) ?_|refine blockK_o' rfl ?_|refine LoopX_e' rfl ?_|assumption)
        |((with_reducible apply q_call);refine X_pure (hA) rfl ?_)
        |((with_reducible apply q_CI);intro hbq;(try simp only [bq] at hbq);(try (exfalso;omega)))
        |with_reducible (first|refine W_seq ?_|refine W_block ?_)
        |((with_reducible apply q_cond);refine X_cond rfl ?_ ?_;all_goals (intro hbq;(try simp only [bq] at hbq);(try (exfalso;omega))))
        |refine Rex.o (by (with_reducible constructor);apply Eq.refl) ?_
        |(intro (hgq : (_ : Bool) = true);(try simp only [bq] at hgq))
        |(intro (hgq : (_ : Bool) = false);(try simp only [bq] at hgq))
        |((with_reducible apply q_VOk);exact fun _ => ⟨rfl,rfl⟩)|(intro _;exact rfl)|((with_reducible apply q_CRB);kernel_rfl)|((with_reducible apply q_bt);simp only [bq])|((with_reducible apply q_eqN);rfl)|((with_reducible apply q_FE);exact rfl)|with_reducible (first|exact isByte_wrap _|exact isByte_nat _)|(simp only [hgq,bq];done)|omega|(dsimp only;omega))
      all_goals rfl
  · rw [decide_eq_false h] at hF
    refine X_fnP mixedX Try.func3 rfl (by kernel_rfl) (Nat.le_of_ble_eq_true (by kernel_rfl)) (by kernel_rfl) rfl rfl ?_
    simp only [sl0, Nat.zero_add, Nat.reduceAdd]
    repeat' (first
      |with_reducible (first|refine q_and ?_ ?_|exact True.intro|exact TkEq.nil _|refine Red.o (by constructor) ?_|refine blockK_o' rfl ?_|refine LoopX_e' rfl ?_|assumption)
      |((with_reducible apply q_call);first|refine X_pure (hF) rfl ?_|refine X_pure (hA) rfl ?_)
      |((with_reducible apply q_CI);intro hbq;(try simp only [bq] at hbq);(try (exfalso;omega)))
      |with_reducible (first|refine W_seq ?_|refine W_block ?_)
      |((with_reducible apply q_cond);refine X_cond rfl ?_ ?_;all_goals (intro hbq;(try simp only [bq] at hbq);(try (exfalso;omega))))
      |refine Rex.o (by (with_reducible constructor);apply Eq.refl) ?_
      |(intro (hgq : (_ : Bool) = true);(try simp only [bq] at hgq))
      |(intro (hgq : (_ : Bool) = false);(try simp only [bq] at hgq))
      |((with_reducible apply q_VOk);exact fun _ => ⟨rfl,rfl⟩)|(intro _;exact rfl)|((with_reducible apply q_CRB);kernel_rfl)|((with_reducible apply q_bt);simp only [bq])|((with_reducible apply q_eqN);rfl)|((with_reducible apply q_FE);exact rfl)|with_reducible (first|exact isByte_wrap _|exact isByte_nat _)|(simp only [hgq,bq];done)|omega|(dsimp only;omega))
    all_goals rfl
end Go.Proofs.Ytbpeakgihhdocaa.Av
namespace Go.Proofs.Ytbpeakgihhdocaa.Av
open Go.RowKit
set_option linter.unusedVariables false
set_option linter.unusedSimpArgs false
theorem okWide_spot {P : Program} {w : World} {r : Reach} {base : Nat} {t e : TypeId} {v : Value} (ht : P.underlying t = some (.slice e)) (h : Value.okWide P w r base t v) {a : Addr} {len cap : Nat} (hv : v = .slice (some a) len cap) : a.spot = none := by
  subst hv
  simp only [Value.okWide, ht, Cell.okWide, Cell.ok] at h
  exact h.2.2.2.1
abbrev IsRowI (w : World) (a : Option Addr) (len cap : Nat) (zs : List Int) : Prop :=
  (a = none ∧ len = 0 ∧ cap = 0 ∧ zs = []) ∨ ∃ x, a = some x ∧ len ≤ cap ∧ cap ≤ maxLen ∧ zs.length = cap ∧ (∀ i, i < zs.length → w.cell? (x.add i) = some (.int .i64 (zs.getD i 0))) ∧ ∀ n ∈ zs, (Lit.int .i64 n).wf = true
theorem flat_int (l : List Int) : l.flatMap fInt = l.map fI := by
  induction l with
  | nil => rfl
  | cons x r ih => rw [List.flatMap_cons, ih]; rfl
theorem rowI_rep {w : World} {a : Option Addr} {len cap : Nat} {zs : List Int} (h : IsRowI w a len cap zs) (hs : ∀ x, a = some x → x.spot = none) : (∀ l, RepA w (fun _ => .lock none) id l (SV.den (.c (rInt (zs.take len)))) (.slice a len cap)) ∧ (zs.take len).length ≤ 9223372036854775807 := by
  rcases h with ⟨rfl, rfl, rfl, rfl⟩ | ⟨x, rfl, hl, hm, hz, hc, _⟩
  · exact ⟨fun l => .nil0, by simp⟩
  · unfold maxLen at hm
    have hlen : (zs.take len).length = len := by rw [List.length_take]; omega
    refine ⟨fun l => ?_, by omega⟩
    obtain ⟨g, o, sp⟩ := x
    have hsp : sp = none := hs _ rfl
    subst hsp
    show RepF w _ (.row ((zs.take len).flatMap fInt) (zs.take len).length) _
    rw [hlen, flat_int]
    have hcell : ∀ i (h : i < (zs.take len).length), w.cell? ⟨g, o + i, none⟩ = some (.int .i64 (zs.take len)[i]) := fun i h => by
      have h1 := hc i (by omega)
      have e : (⟨g, o, none⟩ : Addr).add i = ⟨g, o + i, none⟩ := by
        unfold Addr.add
        split
        · rename_i h0; subst h0; rfl
        · rfl
      rw [e] at h1
      rw [h1, List.getElem_take, List.getD_eq_getElem?_getD, List.getElem?_eq_getElem (by omega)]
      rfl
    refine repF_rowI ⟨g, o, cap, rfl, hl, ⟨fun i hi => ?_, fun hne => ?_⟩⟩
    · rw [List.length_map] at hi
      exact ⟨_, hcell i hi, by rw [List.getElem_map]; exact RepF.v _ rfl⟩
    · refine ⟨?_, trivial⟩
      have h0 : 0 < (zs.take len).length := List.length_pos_iff.2 (fun e => hne (by rw [e]; rfl))
      exact World.block_lt_of_cell? w _ (hcell 0 h0)
theorem law_calls {f : FuncId} {args : List AVal} (hO : Ok Try.prog f args [] (aB true) []) (w : World) (vals : Array Value) (hs : vals.size = args.length) (hr : ∀ i (h : i < args.length) (h' : i < vals.size) l, RepA w (fun _ => .lock none) id l args[i] vals[i]) (hok : ∀ x ∈ args, x.ok 0 = true) :
    Calls Try.prog f vals w fun e w' => e = .returned (.bool true) ∧ Below w.heap.size w w' := by
  refine (hO.run w (fun _ => .lock none) id vals hs hr hok ⟨fun b cs h => by simp at h, fun b cs h => by simp at h⟩).mono ?_
  rintro e w' ⟨v, κ', ρ', rfl, hv, _, hfr, _⟩
  have hv : RepF w' κ' (.v (.bool true)) v := hv (.slot 0)
  rw [(repF_v.1 hv).1]
  exact ⟨rfl, hfr.os, hfr.tape, hfr.output, hfr.size, fun k hk => (hfr.lock k none hk rfl).2⟩
end Go.Proofs.Ytbpeakgihhdocaa.Av
namespace Go.Proofs.Ytbpeakgihhdocaa
open Go.RowKit
set_option linter.unusedVariables false
theorem W.BlockingTimesAscend (a0 : Option Addr) (len0 cap0 : Nat) (z0 : List Int) (a1 : Option Addr) (len1 cap1 : Nat) (z1 : List Int) (a2 : Option Addr) (len2 cap2 : Nat) (z2 : List Int) (w : World) (w0 : Av.IsRowI w a0 len0 cap0 z0) (w1 : Av.IsRowI w a1 len1 cap1 z1) (w2 : Av.IsRowI w a2 len2 cap2 z2) (s0 : ∀ x, a0 = some x → x.spot = none) (s1 : ∀ x, a1 = some x → x.spot = none) (s2 : ∀ x, a2 = some x → x.spot = none) :
    Calls Try.prog 3 #[.slice a0 len0 cap0, .slice a1 len1 cap1, .slice a2 len2 cap2] w fun e w' => e = .returned (.bool true) ∧ Below w.heap.size w w' := by
  obtain ⟨h0, b0⟩ := Av.rowI_rep w0 s0
  obtain ⟨h1, b1⟩ := Av.rowI_rep w1 s1
  obtain ⟨h2, b2⟩ := Av.rowI_rep w2 s2
  refine Av.law_calls (Av.timesAscend_ok _ _ _ b0 b1 b2) w _ rfl (fun i hi hi' l => ?_) (fun x hx => by
    simp at hx
    rcases hx with rfl | rfl | rfl <;> rfl)
  match i, hi with
  | 0, _ => exact h0 l
  | 1, _ => exact h1 l
  | 2, _ => exact h2 l
end Go.Proofs.Ytbpeakgihhdocaa
