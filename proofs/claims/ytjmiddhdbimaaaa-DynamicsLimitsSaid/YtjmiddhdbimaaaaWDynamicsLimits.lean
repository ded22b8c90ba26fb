/- DynamicsLimits returns true, whatever its arguments: a list of MaxCells cells is accepted and a longer one rejected with ErrFull. -/
import Derived.Test.YtjmiddhdbimaaaaDyn4
import Derived.Test.YtjmiddhdbimaaaaPlainCells
namespace Go.Proofs.Ytjmiddhdbimaaaa
open Go.RowKit
set_option linter.unusedVariables false

theorem plain_all (n : Nat) : (List.replicate n ((30000, 0) : Int × Int)).all cellB = true := by
  rw [List.all_eq_true]; intro x hx; rw [List.eq_of_mem_replicate hx]; decide

theorem own_cap {w : World} {base : Nat} {e : TypeId} {size : Nat} {A : Option Addr} {n c : Nat} {xs : List Value} (h : w.ownsRow base e size (.slice A n c) n xs) : n ≤ c := by
  rcases h.2 with ⟨h1, h2⟩ | ⟨g, cap, cur, h1, _, _, h2, _⟩
  · injection h1 with _ _ h3; omega
  · injection h1 with _ _ h3; omega

theorem limits_bad (n : Nat) (start : Int) (h : 4000 < n) : badRun (List.replicate n (30000, 0)) start 3 20000 400 400 = 7 := by
  unfold badRun
  rw [if_neg (by decide), if_pos (by simpa using h)]
theorem limits_ok (n : Nat) (start : Int) (h : n ≤ 4000) (h1 : 0 ≤ start) (h2 : start < (n : Int) - 1) : badRun (List.replicate n (30000, 0)) start 3 20000 400 400 = 0 := by
  unfold badRun
  rw [if_neg (by decide), if_neg (by simp; omega), if_neg (by rw [plain_all]; decide), if_neg (by simp; omega)]

theorem walkLimits_full (ov st : Int) (w : World) (s : Nat) (Hp : Hid (pick ov 3 = 2)) (Hs : Hid (pick st 4000 = (s : Int))) :
    Calls Try.prog 11 #[.int .i64 ov, .int .i64 st] w fun e w' => e = .returned (.bool true) ∧ Below w.heap.size w w' := by
  obtain ⟨cs, Hcs⟩ : ∃ cs, Hid (List.replicate 4001 ((30000, 0) : Int × Int) = cs) := ⟨_, Lib.hid rfl⟩
  have Hbad : Hid (badRun cs s 3 20000 400 400 = 7) := Lib.hid (by rw [← Hcs.out]; exact limits_bad 4001 s (by omega))
  have Hpl : Hid (∀ w, Calls Try.prog 18 #[.int .i64 4001] w (RetCells w cs)) := Lib.hid (fun w => by rw [← Hcs.out]; exact plain_any 4001 w (by omega))
  have hlen : cs.length ≤ 5000 := by rw [← Hcs.out, List.length_replicate]; omega
  have hb0 : Below w.heap.size w (w.alloc (.cells #[.string ⟨#[]⟩, .int .i64 3, .int .i64 20000, .int .i64 400, .int .i64 400] 26)) := (Below.refl _ _).alloc (Nat.le_refl _) _
  have HB := Lib.hid (BoxS.new w ⟨#[]⟩ 3 20000 400 400 26)
  go_enter Try.func11, Try.ntmps11
  (go_wp2_with fail; refine (pick_any ov 3 _ (by omega) (by omega)).mono ?_; rintro e w' ⟨rfl, rfl⟩)
  rw [Hp.out]
  go_wp2_with fail
  refine (pick_any st 4000 _ (by omega) (by omega)).mono ?_
  rintro e w' ⟨rfl, rfl⟩
  rw [Hs.out]
  go_wp2_with fail
  generalize w.alloc (.cells #[.string ⟨#[]⟩, .int .i64 3, .int .i64 20000, .int .i64 400, .int .i64 400] 26) = w0 at *
  obtain ⟨hps, s0, s1, s2, s3, s4⟩ := HB.out
  clear HB
  go_region_held3 (fun w' => w'.cell? ⟨w.heap.size, 0, none⟩ = some (.string ⟨#[]⟩) ∧ w'.cell? ⟨w.heap.size, 1, none⟩ = some (.int .i64 3) ∧ w'.cell? ⟨w.heap.size, 2, none⟩ = some (.int .i64 20000) ∧ w'.cell? ⟨w.heap.size, 3, none⟩ = some (.int .i64 400) ∧ w'.cell? ⟨w.heap.size, 4, none⟩ = some (.int .i64 400))
    (first | (go_keep; done) | exact ⟨t0, t1, t2, t3, t4⟩ | exact ⟨(hb2.cell (p := ⟨_, _, none⟩) hps').trans t0, (hb2.cell (p := ⟨_, _, none⟩) hps').trans t1, (hb2.cell (p := ⟨_, _, none⟩) hps').trans t2, (hb2.cell (p := ⟨_, _, none⟩) hps').trans t3, (hb2.cell (p := ⟨_, _, none⟩) hps').trans t4⟩)
    (first | (go_at_call 18; refine (Hpl.out _).mono ?_; rintro e w1 ⟨A, c, rfl, hown, hb1⟩; have t0 := (hb1.cell (p := ⟨_, _, none⟩) hps).trans s0; have t1 := (hb1.cell (p := ⟨_, _, none⟩) hps).trans s1; have t2 := (hb1.cell (p := ⟨_, _, none⟩) hps).trans s2; have t3 := (hb1.cell (p := ⟨_, _, none⟩) hps).trans s3; have t4 := (hb1.cell (p := ⟨_, _, none⟩) hps).trans s4; have hps' := Nat.lt_of_lt_of_le hps hb1.size) | (go_at_call 20; refine (run_bad A c cs s _ 3 20000 400 400 _ (RdC.of_own hown rfl) (by omega) (by rw [Hbad.out]; decide)).mono ?_; rintro e w2 ⟨rfl, hb2⟩; rw [Hbad.out]))
  have Hb : Hid (Below w.heap.size w w2) := Lib.hid ((hb0.drew.trans (hb1.mono hb0.size)).trans (hb2.mono (Nat.le_trans hb0.size hb1.size)))
  clear hb0 hb1 hb2 hown t0 t1 t2 t3 t4 s0 s1 s2 s3 s4
  go_wp2
  go_ret
  exact ⟨rfl, Hb.out⟩

theorem walkLimits_less (ov st : Int) (w : World) (s : Nat) (Hp : Hid (pick ov 3 = 0)) (Hs : Hid (pick st 3998 = (s : Int))) :
    Calls Try.prog 11 #[.int .i64 ov, .int .i64 st] w fun e w' => e = .returned (.bool true) ∧ Below w.heap.size w w' := by
  obtain ⟨cs, Hcs⟩ : ∃ cs, Hid (List.replicate 3999 ((30000, 0) : Int × Int) = cs) := ⟨_, Lib.hid rfl⟩
  have hs : (s : Int) < 3998 := by rw [← Hs.out]; exact (pick_range st 3998 (by omega)).2
  have Hok : Hid (badRun cs s ((3 : Nat) : Int) 20000 400 400 = 0) := Lib.hid (by rw [← Hcs.out]; exact limits_ok 3999 s (by omega) (by omega) (by omega))
  have hlen2 : cs.length = 3999 := by rw [← Hcs.out, List.length_replicate]
  have hpos : 0 < runT cs s 3 20000 400 400 := runT_pos (by omega) (by omega) (by omega) (by omega) (by omega) (by omega) (by rw [← Hcs.out]; exact plain_all _) (by omega)
  clear hlen2
  obtain ⟨t, Ht⟩ : ∃ t, Hid (runT cs s 3 20000 400 400 = t) := ⟨_, Lib.hid rfl⟩
  rw [Ht.out] at hpos
  have Hpl : Hid (∀ w, Calls Try.prog 18 #[.int .i64 3999] w (RetCells w cs)) := Lib.hid (fun w => by rw [← Hcs.out]; exact plain_any 3999 w (by omega))
  have hlen : cs.length ≤ 5000 := by rw [← Hcs.out, List.length_replicate]; omega
  have hb0 : Below w.heap.size w (w.alloc (.cells #[.string ⟨#[]⟩, .int .i64 3, .int .i64 20000, .int .i64 400, .int .i64 400] 26)) := (Below.refl _ _).alloc (Nat.le_refl _) _
  have HB := Lib.hid (BoxS.new w ⟨#[]⟩ 3 20000 400 400 26)
  go_enter Try.func11, Try.ntmps11
  (go_wp2_with fail; refine (pick_any ov 3 _ (by omega) (by omega)).mono ?_; rintro e w' ⟨rfl, rfl⟩)
  rw [Hp.out]
  go_wp2_with fail
  refine (pick_any st 3998 _ (by omega) (by omega)).mono ?_
  rintro e w' ⟨rfl, rfl⟩
  rw [Hs.out]
  go_wp2_with fail
  generalize w.alloc (.cells #[.string ⟨#[]⟩, .int .i64 3, .int .i64 20000, .int .i64 400, .int .i64 400] 26) = w0 at *
  obtain ⟨hps, s0, s1, s2, s3, s4⟩ := HB.out
  clear HB
  go_region_held3 (fun w' => w'.cell? ⟨w.heap.size, 0, none⟩ = some (.string ⟨#[]⟩) ∧ w'.cell? ⟨w.heap.size, 1, none⟩ = some (.int .i64 3) ∧ w'.cell? ⟨w.heap.size, 2, none⟩ = some (.int .i64 20000) ∧ w'.cell? ⟨w.heap.size, 3, none⟩ = some (.int .i64 400) ∧ w'.cell? ⟨w.heap.size, 4, none⟩ = some (.int .i64 400))
    (first | (go_keep; done) | exact ⟨t0, t1, t2, t3, t4⟩ | exact ⟨(hb2.cell (p := ⟨_, _, none⟩) hps').trans t0, (hb2.cell (p := ⟨_, _, none⟩) hps').trans t1, (hb2.cell (p := ⟨_, _, none⟩) hps').trans t2, (hb2.cell (p := ⟨_, _, none⟩) hps').trans t3, (hb2.cell (p := ⟨_, _, none⟩) hps').trans t4⟩)
    (first | (go_at_call 18; refine (Hpl.out _).mono ?_; rintro e w1 ⟨A, c, rfl, hown, hb1⟩; have t0 := (hb1.cell (p := ⟨_, _, none⟩) hps).trans s0; have t1 := (hb1.cell (p := ⟨_, _, none⟩) hps).trans s1; have t2 := (hb1.cell (p := ⟨_, _, none⟩) hps).trans s2; have t3 := (hb1.cell (p := ⟨_, _, none⟩) hps).trans s3; have t4 := (hb1.cell (p := ⟨_, _, none⟩) hps).trans s4; have hps' := Nat.lt_of_lt_of_le hps hb1.size) | (go_at_call 20; refine (run_ok A c cs s 3 _ 20000 400 400 _ (RdC.of_own hown rfl) (own_cap hown) Hok.out).mono ?_; rintro e w2 ⟨rfl, hb2⟩; rw [Ht.out]))
  have Hb : Hid (Below w.heap.size w w2) := Lib.hid ((hb0.drew.trans (hb1.mono hb0.size)).trans (hb2.mono (Nat.le_trans hb0.size hb1.size)))
  clear hb0 hb1 hb2 hown t0 t1 t2 t3 t4 s0 s1 s2 s3 s4
  go_wp2
  go_ret
  exact ⟨rfl, Hb.out⟩
theorem walkLimits_just (ov st : Int) (w : World) (s : Nat) (Hp : Hid (pick ov 3 = 1)) (Hs : Hid (pick st 3999 = (s : Int))) :
    Calls Try.prog 11 #[.int .i64 ov, .int .i64 st] w fun e w' => e = .returned (.bool true) ∧ Below w.heap.size w w' := by
  obtain ⟨cs, Hcs⟩ : ∃ cs, Hid (List.replicate 4000 ((30000, 0) : Int × Int) = cs) := ⟨_, Lib.hid rfl⟩
  have hs : (s : Int) < 3999 := by rw [← Hs.out]; exact (pick_range st 3999 (by omega)).2
  have Hok : Hid (badRun cs s ((3 : Nat) : Int) 20000 400 400 = 0) := Lib.hid (by rw [← Hcs.out]; exact limits_ok 4000 s (by omega) (by omega) (by omega))
  have hlen2 : cs.length = 4000 := by rw [← Hcs.out, List.length_replicate]
  have hpos : 0 < runT cs s 3 20000 400 400 := runT_pos (by omega) (by omega) (by omega) (by omega) (by omega) (by omega) (by rw [← Hcs.out]; exact plain_all _) (by omega)
  clear hlen2
  obtain ⟨t, Ht⟩ : ∃ t, Hid (runT cs s 3 20000 400 400 = t) := ⟨_, Lib.hid rfl⟩
  rw [Ht.out] at hpos
  have Hpl : Hid (∀ w, Calls Try.prog 18 #[.int .i64 4000] w (RetCells w cs)) := Lib.hid (fun w => by rw [← Hcs.out]; exact plain_any 4000 w (by omega))
  have hlen : cs.length ≤ 5000 := by rw [← Hcs.out, List.length_replicate]; omega
  have hb0 : Below w.heap.size w (w.alloc (.cells #[.string ⟨#[]⟩, .int .i64 3, .int .i64 20000, .int .i64 400, .int .i64 400] 26)) := (Below.refl _ _).alloc (Nat.le_refl _) _
  have HB := Lib.hid (BoxS.new w ⟨#[]⟩ 3 20000 400 400 26)
  go_enter Try.func11, Try.ntmps11
  (go_wp2_with fail; refine (pick_any ov 3 _ (by omega) (by omega)).mono ?_; rintro e w' ⟨rfl, rfl⟩)
  rw [Hp.out]
  go_wp2_with fail
  refine (pick_any st 3999 _ (by omega) (by omega)).mono ?_
  rintro e w' ⟨rfl, rfl⟩
  rw [Hs.out]
  go_wp2_with fail
  generalize w.alloc (.cells #[.string ⟨#[]⟩, .int .i64 3, .int .i64 20000, .int .i64 400, .int .i64 400] 26) = w0 at *
  obtain ⟨hps, s0, s1, s2, s3, s4⟩ := HB.out
  clear HB
  go_region_held3 (fun w' => w'.cell? ⟨w.heap.size, 0, none⟩ = some (.string ⟨#[]⟩) ∧ w'.cell? ⟨w.heap.size, 1, none⟩ = some (.int .i64 3) ∧ w'.cell? ⟨w.heap.size, 2, none⟩ = some (.int .i64 20000) ∧ w'.cell? ⟨w.heap.size, 3, none⟩ = some (.int .i64 400) ∧ w'.cell? ⟨w.heap.size, 4, none⟩ = some (.int .i64 400))
    (first | (go_keep; done) | exact ⟨t0, t1, t2, t3, t4⟩ | exact ⟨(hb2.cell (p := ⟨_, _, none⟩) hps').trans t0, (hb2.cell (p := ⟨_, _, none⟩) hps').trans t1, (hb2.cell (p := ⟨_, _, none⟩) hps').trans t2, (hb2.cell (p := ⟨_, _, none⟩) hps').trans t3, (hb2.cell (p := ⟨_, _, none⟩) hps').trans t4⟩)
    (first | (go_at_call 18; refine (Hpl.out _).mono ?_; rintro e w1 ⟨A, c, rfl, hown, hb1⟩; have t0 := (hb1.cell (p := ⟨_, _, none⟩) hps).trans s0; have t1 := (hb1.cell (p := ⟨_, _, none⟩) hps).trans s1; have t2 := (hb1.cell (p := ⟨_, _, none⟩) hps).trans s2; have t3 := (hb1.cell (p := ⟨_, _, none⟩) hps).trans s3; have t4 := (hb1.cell (p := ⟨_, _, none⟩) hps).trans s4; have hps' := Nat.lt_of_lt_of_le hps hb1.size) | (go_at_call 20; refine (run_ok A c cs s 3 _ 20000 400 400 _ (RdC.of_own hown rfl) (own_cap hown) Hok.out).mono ?_; rintro e w2 ⟨rfl, hb2⟩; rw [Ht.out]))
  have Hb : Hid (Below w.heap.size w w2) := Lib.hid ((hb0.drew.trans (hb1.mono hb0.size)).trans (hb2.mono (Nat.le_trans hb0.size hb1.size)))
  clear hb0 hb1 hb2 hown t0 t1 t2 t3 t4 s0 s1 s2 s3 s4
  go_wp2
  go_ret
  exact ⟨rfl, Hb.out⟩

theorem W.DynamicsLimits (a0 : Int) (a1 : Int) (w0 : (Lit.int .i64 a0).wf = true) (w1 : (Lit.int .i64 a1).wf = true) (w : World) :
    Calls Try.prog 11 #[.int .i64 a0, .int .i64 a1] w fun e w' => e = .returned (.bool true) ∧ Below w.heap.size w w' := by
  obtain ⟨h1, h2⟩ := pick_range a0 3 (by omega)
  by_cases h0 : pick a0 3 = 0
  · obtain ⟨s, hs⟩ := Int.eq_ofNat_of_zero_le (pick_range a1 3998 (by omega)).1
    exact walkLimits_less a0 a1 w s (Lib.hid h0) (Lib.hid hs)
  · by_cases h3 : pick a0 3 = 1
    · obtain ⟨s, hs⟩ := Int.eq_ofNat_of_zero_le (pick_range a1 3999 (by omega)).1
      exact walkLimits_just a0 a1 w s (Lib.hid h3) (Lib.hid hs)
    · obtain ⟨s, hs⟩ := Int.eq_ofNat_of_zero_le (pick_range a1 4000 (by omega)).1
      exact walkLimits_full a0 a1 w s (Lib.hid (by omega)) (Lib.hid hs)
end Go.Proofs.Ytjmiddhdbimaaaa
