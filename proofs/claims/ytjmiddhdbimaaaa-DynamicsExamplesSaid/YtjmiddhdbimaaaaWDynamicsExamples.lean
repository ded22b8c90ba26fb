/- DynamicsExamples returns true: the example of chapter 6 holds. -/
import Derived.Test.YtjmiddhdbimaaaaDyn4
import Derived.Test.YtjmiddhdbimaaaaPlainCells
import Derived.Test.YtjmiddhdbimaaaaSame
namespace Go.Proofs.Ytjmiddhdbimaaaa
open Go.RowKit
set_option linter.unusedVariables false

theorem own_cap {w : World} {base : Nat} {e : TypeId} {size : Nat} {A : Option Addr} {n c : Nat} {xs : List Value} (h : w.ownsRow base e size (.slice A n c) n xs) : n ≤ c := by
  rcases h.2 with ⟨h1, h2⟩ | ⟨g, cap, cur, h1, _, _, h2, _⟩
  · injection h1 with _ _ h3; omega
  · injection h1 with _ _ h3; omega

theorem ex_sq (j : Nat) (hj : j ≤ 2) : sqW [(30000, 0), (30000, 0)] 0 1 30000 500 500 j = if j = 1 then 10000000 else 0 := by
  have : j = 0 ∨ j = 1 ∨ j = 2 := by omega
  rcases this with rfl | rfl | rfl <;> decide +kernel
theorem ex_spd (j : Nat) (hj : j ≤ 2) : spd [(30000, 0), (30000, 0)] 0 1 30000 500 500 j = if j = 1 then 3162 else 0 := by
  unfold spd
  rw [ex_sq j hj]
  by_cases h : j = 1
  · rw [if_pos h, if_pos h]
    exact (Pl.isqrt_unique 10000000 3162 (by omega) (by omega)).symm
  · rw [if_neg h, if_neg h]; rfl
theorem ex_tim1 : tim [(30000, 0), (30000, 0)] 0 1 30000 500 500 1 = 6326 := by
  simp only [tim]
  rw [ex_spd 0 (by omega), ex_spd 1 (by omega)]; decide +kernel
theorem ex_tim2 : tim [(30000, 0), (30000, 0)] 0 1 30000 500 500 2 = 12652 := by
  rw [tim, ex_tim1, ex_spd 1 (by omega), ex_spd 2 (by omega)]; decide +kernel
theorem ex_run : runT [(30000, 0), (30000, 0)] 0 1 30000 500 500 = 13 := by
  unfold runT
  rw [show ([(30000, 0), (30000, 0)] : List (Int × Int)).length - 0 = 2 from rfl, ex_tim2]; decide +kernel
theorem ex_ok : badRun [(30000, 0), (30000, 0)] ((0 : Nat) : Int) ((1 : Nat) : Int) 30000 500 500 = 0 := by decide +kernel

theorem W.DynamicsExamples (w : World) :
    Calls Try.prog 8 #[] w fun e w' => e = .returned (.bool true) ∧ Below w.heap.size w w' := by
  obtain ⟨cs, Hcs⟩ : ∃ cs, Hid (List.replicate 2 ((30000, 0) : Int × Int) = cs) := ⟨_, Lib.hid rfl⟩
  have ecs : cs = [(30000, 0), (30000, 0)] := Hcs.out.symm
  have Hpl : Hid (∀ w, Calls Try.prog 18 #[.int .i64 2] w (RetCells w cs)) := Lib.hid (fun w => by rw [← Hcs.out]; exact plain_any 2 w (by omega))
  have Hok : Hid (badRun cs ((0 : Nat) : Int) ((1 : Nat) : Int) 30000 500 500 = 0) := Lib.hid (by rw [ecs]; exact ex_ok)
  have Hrun : Hid (runT cs 0 1 30000 500 500 = 13) := Lib.hid (by rw [ecs]; exact ex_run)
  have Hlen : Hid (cs.length - 0 + 1 = 3) := Lib.hid (by rw [ecs]; rfl)
  have Hv : Hid ((List.range 3).map (fun j => ((spd cs 0 1 30000 500 500 j : Nat) : Int)) = [0, 3162, 0]) := Lib.hid (by
    rw [ecs]; simp only [List.range_succ, List.range_zero, List.map_cons, List.map_nil, List.nil_append, List.cons_append]
    rw [ex_spd 0 (by omega), ex_spd 1 (by omega), ex_spd 2 (by omega)]; rfl)
  have Ht : Hid ((List.range 3).map (tim cs 0 1 30000 500 500) = [0, 6326, 12652]) := Lib.hid (by
    rw [ecs]; simp only [List.range_succ, List.range_zero, List.map_cons, List.map_nil, List.nil_append, List.cons_append]
    rw [ex_tim1, ex_tim2]; rfl)
  have Hchk : Hid (chkB 1 30000 500 500 = true) := Lib.hid (by decide)
  clear ecs Hcs
  have HB := Lib.hid (BoxS.new w ⟨#[]⟩ 1 30000 500 500 26)
  have Hb0 : Hid (Below w.heap.size w (w.alloc (.cells #[.string ⟨#[]⟩, .int .i64 1, .int .i64 30000, .int .i64 500, .int .i64 500] 26))) := Lib.hid ((Below.refl _ _).alloc (Nat.le_refl _) _)
  go_enter Try.func8, Try.ntmps8
  go_wp2_with fail
  generalize w.alloc (.cells #[.string ⟨#[]⟩, .int .i64 1, .int .i64 30000, .int .i64 500, .int .i64 500] 26) = w0 at *
  have x0 := HB.out
  have b0 := Hb0.out
  go_region_held3 (fun w' => w'.cell? ⟨w.heap.size, 0, none⟩ = some (.string ⟨#[]⟩) ∧ w'.cell? ⟨w.heap.size, 1, none⟩ = some (.int .i64 1) ∧ w'.cell? ⟨w.heap.size, 2, none⟩ = some (.int .i64 30000) ∧ w'.cell? ⟨w.heap.size, 3, none⟩ = some (.int .i64 500) ∧ w'.cell? ⟨w.heap.size, 4, none⟩ = some (.int .i64 500)) (first | exact x0.2 | exact x1.2 | exact x2.2)
    (first | (go_at_call 18; refine (Hpl.out _).mono ?_; rintro e w1 ⟨A, c, rfl, hown, hb1⟩; have x1 := BoxS.below (show BoxS w0.drew _ _ _ _ _ _ from x0) hb1) | (go_at_call 17; refine (speeds_ok A c cs 0 1 _ 30000 500 500 _ (RdC.of_own hown rfl) (own_cap hown) Hok.out).mono ?_; rintro e w2 ⟨r1, rfl, hr1, hrow1, hb2⟩; have x2 := x1.below hb2; rw [Hlen.out]))
  rw [Hlen.out] at hrow1
  have Hb2 : Hid (Below w.heap.size w w2) := Lib.hid ((b0.drew.trans (hb1.mono b0.size)).trans (hb2.mono (Nat.le_trans b0.size hb1.size)))
  have HX2 := Lib.hid x2
  have HR1 := Lib.hid (rdI_of_rowIs hrow1)
  rw [Hv.out] at HR1
  clear hown hrow1 hb1 hb2 x0 x1 x2 b0 HB Hb0 hr1
  go_wp2
  have x0 := HX2.out
  go_region_held3 (fun w' => w'.cell? ⟨w.heap.size, 0, none⟩ = some (.string ⟨#[]⟩) ∧ w'.cell? ⟨w.heap.size, 1, none⟩ = some (.int .i64 1) ∧ w'.cell? ⟨w.heap.size, 2, none⟩ = some (.int .i64 30000) ∧ w'.cell? ⟨w.heap.size, 3, none⟩ = some (.int .i64 500) ∧ w'.cell? ⟨w.heap.size, 4, none⟩ = some (.int .i64 500)) (first | exact x0.2 | exact x1.2 | exact x2.2)
    (first | (go_at_call 18; refine (Hpl.out _).mono ?_; rintro e w3 ⟨A, c, rfl, hown, hb1⟩; have x1 := BoxS.below (show BoxS w2.drew _ _ _ _ _ _ from x0) hb1) | (go_at_call 19; refine (times_ok A c cs 0 1 _ 30000 500 500 _ (RdC.of_own hown rfl) (own_cap hown) Hok.out).mono ?_; rintro e w4 ⟨r2, rfl, hr2, hrow2, hb2⟩; have x2 := x1.below hb2; rw [Hlen.out]))
  rw [Hlen.out] at hrow2
  have Hb4 : Hid (Below w.heap.size w w4) := Lib.hid ((Hb2.out.drew.trans (hb1.mono Hb2.out.size)).trans (hb2.mono (Nat.le_trans Hb2.out.size hb1.size)))
  have HX4 := Lib.hid x2
  have HR2 := Lib.hid (rdI_of_rowIs hrow2)
  rw [Ht.out] at HR2
  have HR1' := Lib.hid ((RdI.below (show RdI w2.drew _ _ from HR1.out) hb1).below hb2)
  clear hown hrow2 hb1 hb2 x0 x1 x2 HX2 Hb2 hr2 HR1
  go_wp2
  have x0 := HX4.out
  go_region_held3 (fun w' => w'.cell? ⟨w.heap.size, 0, none⟩ = some (.string ⟨#[]⟩) ∧ w'.cell? ⟨w.heap.size, 1, none⟩ = some (.int .i64 1) ∧ w'.cell? ⟨w.heap.size, 2, none⟩ = some (.int .i64 30000) ∧ w'.cell? ⟨w.heap.size, 3, none⟩ = some (.int .i64 500) ∧ w'.cell? ⟨w.heap.size, 4, none⟩ = some (.int .i64 500)) (first | exact x0.2 | exact x1.2 | exact x2.2)
    (first | (go_at_call 18; refine (Hpl.out _).mono ?_; rintro e w5 ⟨A, c, rfl, hown, hb1⟩; have x1 := BoxS.below (show BoxS w4.drew _ _ _ _ _ _ from x0) hb1) | (go_at_call 20; refine (run_ok A c cs 0 1 _ 30000 500 500 _ (RdC.of_own hown rfl) (own_cap hown) Hok.out).mono ?_; rintro e w6 ⟨rfl, hb2⟩; have x2 := x1.below hb2; rw [Hrun.out]))
  have Hb6 : Hid (Below w.heap.size w w6) := Lib.hid ((Hb4.out.drew.trans (hb1.mono Hb4.out.size)).trans (hb2.mono (Nat.le_trans Hb4.out.size hb1.size)))
  have HX6 := Lib.hid x2
  have HR2' := Lib.hid ((RdI.below (show RdI w4.drew _ _ from HR2.out) hb1).below hb2)
  have HR1'' := Lib.hid ((RdI.below (show RdI w4.drew _ _ from HR1'.out) hb1).below hb2)
  clear hown hb1 hb2 x0 x1 x2 HX4 Hb4 HR1' HR2
  have A1 : Below w6.heap.size w6 (w6.alloc (.cells #[.int .i64 0, .int .i64 3162, .int .i64 0] 3)) := (Below.refl _ _).alloc (Nat.le_refl _) _
  have N1 : Hid (RdI (w6.alloc (.cells #[.int .i64 0, .int .i64 3162, .int .i64 0] 3)) (some ⟨w6.heap.size, 0, none⟩) [0, 3162, 0]) := Lib.hid (fun k hk => ⟨w6.heap.size, 0, rfl, by simp, by
    have : k = 0 ∨ k = 1 ∨ k = 2 := by simp at hk; omega
    rcases this with rfl | rfl | rfl <;> simp⟩)
  have M1 := Lib.hid (HR1''.out.below A1)
  have M2 := Lib.hid (HR2'.out.below A1)
  have MX := Lib.hid (HX6.out.below A1)
  have MB : Hid (Below w.heap.size w (w6.alloc (.cells #[.int .i64 0, .int .i64 3162, .int .i64 0] 3))) := Lib.hid (Hb6.out.trans (A1.mono Hb6.out.size))
  clear A1
  go_wp2_with fail
  generalize w6.alloc (.cells #[.int .i64 0, .int .i64 3162, .int .i64 0] 3) = w7 at *
  refine (same_yes _ _ 3 3 [0, 3162, 0] _ M1.out N1.out (by decide)).mono ?_
  rintro e w8 ⟨rfl, n8, rfl⟩
  have A2 : Below w7.heap.size w7 (((w7.drewN n8).alloc (.cells #[.int .i64 0, .int .i64 6326, .int .i64 12652] 3))) := (below_draws (Below.refl _ _) n8).alloc (Nat.le_refl _) _
  have N2 : Hid (RdI ((w7.drewN n8).alloc (.cells #[.int .i64 0, .int .i64 6326, .int .i64 12652] 3)) (some ⟨w7.heap.size, 0, none⟩) [0, 6326, 12652]) := Lib.hid (fun k hk => ⟨w7.heap.size, 0, rfl, by simp, by
    have : k = 0 ∨ k = 1 ∨ k = 2 := by simp at hk; omega
    rcases this with rfl | rfl | rfl <;> exact World.cell?_alloc_new .. ⟩)
  have M2' := Lib.hid (M2.out.below A2)
  have MX' := Lib.hid (MX.out.below A2)
  have MB' := Lib.hid (MB.out.trans (A2.mono MB.out.size))
  clear A2
  go_wp2_with fail
  generalize (w7.drewN n8).alloc (.cells #[.int .i64 0, .int .i64 6326, .int .i64 12652] 3) = w9 at *
  refine (same_yes _ _ 3 3 [0, 6326, 12652] _ M2'.out N2.out (by decide)).mono ?_
  rintro e w10 ⟨rfl, n10, rfl⟩
  obtain ⟨hps, s0, s1, s2, s3, s4⟩ := MX'.out
  go_wp2_with fail
  refine (check_any _ 1 30000 500 500 _).mono ?_
  rintro e w11 ⟨rfl, hb11⟩
  rw [Hchk.out]
  go_wp2
  go_ret
  exact ⟨rfl, (below_draws MB'.out n10).trans (hb11.mono MB'.out.size)⟩
end Go.Proofs.Ytjmiddhdbimaaaa
