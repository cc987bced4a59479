/- Answers of calls. -/
import Derived.Test.YtokbomdlodainaaGreatDoorVcQ4
set_option linter.all false
namespace Go.Proofs.Tryz.Vc
open Go Go.Proofs Go.Ve
set_option maxRecDepth 100000
set_option maxHeartbeats 4000000
def o441 : Ob := (3, [.sym .i32 0, .sym .i32 1], .ret (.bool true))
theorem q441 (a b : Int) (H : Hy a b) (hc : b ≤ 0 ∧ b < a) : Ans (i0 a b) (s0 a b) o441 := by
  have H0 := H
  have hc0 := hc
  obtain ⟨h1, h2, h3, h4⟩ := H
  obtain ⟨c0, c1⟩ := hc
  have ea := q0_lt a
  have fa : qn a 0 = (a % 4294967296).toNat := rfl
  have eb := q0_lt b
  have fb : qn b 0 = (b % 4294967296).toNat := rfl
  exact ans (fxL ++ [⟨.convI .i64 (.c (.sym .i32 0)), .sym .i64 50⟩,
    ⟨.convI .i64 (.c (.sym .i32 1)), .sym .i64 53⟩,
    ⟨.mxn true (.c (.int .i64 1)) (.c (.sym .i64 53)), .int .i64 1⟩,
    ⟨.bin .quo (.c (.sym .i64 50)) (.c (.int .i64 1)), .sym .i64 79⟩,
    ⟨.bin .rem (.c (.sym .i64 50)) (.c (.int .i64 1)), .int .i64 0⟩,
    ⟨.bin .eql (.c (.sym .i32 0)) (.c (.sym .i32 1)), .bool false⟩,
    ⟨.bin .neq (.c (.sym .i32 0)) (.c (.sym .i32 1)), .bool true⟩,
    ⟨.bin .lss (.c (.sym .i32 0)) (.c (.sym .i32 1)), .bool false⟩,
    ⟨.bin .leq (.c (.sym .i32 0)) (.c (.sym .i32 1)), .bool false⟩,
    ⟨.bin .gtr (.c (.sym .i32 0)) (.c (.sym .i32 1)), .bool true⟩,
    ⟨.bin .geq (.c (.sym .i32 0)) (.c (.sym .i32 1)), .bool true⟩,
    ⟨.bin .add (.c (.sym .i32 0)) (.c (.sym .i32 1)), .sym .i32 65⟩,
    ⟨.convI .i64 (.c (.sym .i32 65)), .sym .i64 66⟩,
    ⟨.bin .neq (.c (.sym .i64 54)) (.c (.sym .i64 66)), .bool false⟩,
    ⟨.bin .sub (.c (.sym .i32 0)) (.c (.sym .i32 1)), .sym .i32 67⟩,
    ⟨.convI .i64 (.c (.sym .i32 67)), .sym .i64 68⟩,
    ⟨.bin .neq (.c (.sym .i64 55)) (.c (.sym .i64 68)), .bool false⟩,
    ⟨.bin .mul (.c (.sym .i32 0)) (.c (.sym .i32 1)), .sym .i32 69⟩,
    ⟨.convI .i64 (.c (.sym .i32 69)), .sym .i64 70⟩,
    ⟨.bin .neq (.c (.sym .i64 56)) (.c (.sym .i64 70)), .bool false⟩,
    ⟨.bin .leq (.c (.sym .i32 1)) (.c (.int .i32 0)), .bool true⟩,
    ⟨.bin .neq (.c (.sym .i64 57)) (.c (.int .i64 0)), .bool false⟩,
    ⟨.bin .neq (.c (.sym .i64 58)) (.c (.int .i64 1)), .bool false⟩,
    ⟨.bin .neq (.c (.sym .i64 59)) (.c (.int .i64 0)), .bool false⟩,
    ⟨.bin .neq (.c (.sym .i64 60)) (.c (.int .i64 0)), .bool false⟩,
    ⟨.bin .neq (.c (.sym .i64 61)) (.c (.int .i64 1)), .bool false⟩,
    ⟨.bin .neq (.c (.sym .i64 62)) (.c (.int .i64 1)), .bool false⟩])
    (okAll_app (fxL_ok a b) (⟨(Eq.trans (b := some (.int .i64 (IntKind.i64.wrap (a : Int)))) (by kernel_rfl) (f_int (p := (IntKind.i64.wrap (a : Int))) (q := (a : Int)) (by simp only [IntKind.wrap_i64, IntKind.wrap_i32, IntKind.wrap_u64, IntKind.wrap_u32, Int.tdiv_one, Int.tmod_one] <;> omega))), ⟨(Eq.trans (b := some (.int .i64 (IntKind.i64.wrap (b : Int)))) (by kernel_rfl) (f_int (p := (IntKind.i64.wrap (b : Int))) (q := (b : Int)) (by simp only [IntKind.wrap_i64, IntKind.wrap_i32, IntKind.wrap_u64, IntKind.wrap_u32, Int.tdiv_one, Int.tmod_one] <;> omega))), ⟨(Eq.trans (b := some (.int .i64 (if (b : Int) > (1 : Int) then (b : Int) else (1 : Int)))) (by kernel_rfl) (f_int (p := (if (b : Int) > (1 : Int) then (b : Int) else (1 : Int))) (q := (1 : Int)) (by split <;> omega))), ⟨(Eq.trans (b := some (.int .i64 (IntKind.i64.wrap (Int.tdiv (a : Int) (1 : Int))))) (by kernel_rfl) (f_int (p := (IntKind.i64.wrap (Int.tdiv (a : Int) (1 : Int)))) (q := ((Int.tdiv a 1) : Int)) (by simp only [IntKind.wrap_i64, IntKind.wrap_i32, IntKind.wrap_u64, IntKind.wrap_u32, Int.tdiv_one, Int.tmod_one]; omega))), ⟨(Eq.trans (b := some (.int .i64 (Int.tmod (a : Int) (1 : Int)))) (by kernel_rfl) (f_int (p := (Int.tmod (a : Int) (1 : Int))) (q := (0 : Int)) (by simp only [Int.tmod_one]))), ⟨(Eq.trans (b := some (.bool (((a : Int) == (b : Int))))) (by kernel_rfl) (f_bool (q := false) (beq_eq_false_iff_ne.2 (by omega)))), ⟨(Eq.trans (b := some (.bool (((a : Int) != (b : Int))))) (by kernel_rfl) (f_bool (q := true) (bne_iff_ne.2 (by omega)))), ⟨(Eq.trans (b := some (.bool (decide ((a : Int) < (b : Int))))) (by kernel_rfl) (f_bool (q := false) (decide_eq_false (by omega)))), ⟨(Eq.trans (b := some (.bool (decide ((a : Int) ≤ (b : Int))))) (by kernel_rfl) (f_bool (q := false) (decide_eq_false (by omega)))), ⟨(Eq.trans (b := some (.bool (decide ((a : Int) > (b : Int))))) (by kernel_rfl) (f_bool (q := true) (decide_eq_true (by omega)))), ⟨(Eq.trans (b := some (.bool (decide ((a : Int) ≥ (b : Int))))) (by kernel_rfl) (f_bool (q := true) (decide_eq_true (by omega)))), ⟨(Eq.trans (b := some (.int .i32 (IntKind.i32.wrap ((a : Int) + (b : Int))))) (by kernel_rfl) (f_int (p := (IntKind.i32.wrap ((a : Int) + (b : Int)))) (q := ((IntKind.i32.wrap (a + b)) : Int)) (rfl))), ⟨(Eq.trans (b := some (.int .i64 (IntKind.i64.wrap ((IntKind.i32.wrap (a + b)) : Int)))) (by kernel_rfl) (f_int (p := (IntKind.i64.wrap ((IntKind.i32.wrap (a + b)) : Int))) (q := ((IntKind.i32.wrap (a + b)) : Int)) (by simp only [IntKind.wrap_i64, IntKind.wrap_i32, IntKind.wrap_u64, IntKind.wrap_u32, Int.tdiv_one, Int.tmod_one] <;> omega))), ⟨(Eq.trans (b := some (.bool ((((IntKind.i32.wrap (a + b)) : Int) != ((IntKind.i32.wrap (a + b)) : Int))))) (by kernel_rfl) (f_bool (q := false) (bne_eq_false_iff_eq.2 rfl))), ⟨(Eq.trans (b := some (.int .i32 (IntKind.i32.wrap ((a : Int) - (b : Int))))) (by kernel_rfl) (f_int (p := (IntKind.i32.wrap ((a : Int) - (b : Int)))) (q := ((IntKind.i32.wrap (a - b)) : Int)) (rfl))), ⟨(Eq.trans (b := some (.int .i64 (IntKind.i64.wrap ((IntKind.i32.wrap (a - b)) : Int)))) (by kernel_rfl) (f_int (p := (IntKind.i64.wrap ((IntKind.i32.wrap (a - b)) : Int))) (q := ((IntKind.i32.wrap (a - b)) : Int)) (by simp only [IntKind.wrap_i64, IntKind.wrap_i32, IntKind.wrap_u64, IntKind.wrap_u32, Int.tdiv_one, Int.tmod_one] <;> omega))), ⟨(Eq.trans (b := some (.bool ((((IntKind.i32.wrap (a - b)) : Int) != ((IntKind.i32.wrap (a - b)) : Int))))) (by kernel_rfl) (f_bool (q := false) (bne_eq_false_iff_eq.2 rfl))), ⟨(Eq.trans (b := some (.int .i32 (IntKind.i32.wrap ((a : Int) * (b : Int))))) (by kernel_rfl) (f_int (p := (IntKind.i32.wrap ((a : Int) * (b : Int)))) (q := ((IntKind.i32.wrap (a * b)) : Int)) (rfl))), ⟨(Eq.trans (b := some (.int .i64 (IntKind.i64.wrap ((IntKind.i32.wrap (a * b)) : Int)))) (by kernel_rfl) (f_int (p := (IntKind.i64.wrap ((IntKind.i32.wrap (a * b)) : Int))) (q := ((IntKind.i32.wrap (a * b)) : Int)) (by simp only [IntKind.wrap_i64, IntKind.wrap_i32, IntKind.wrap_u64, IntKind.wrap_u32, Int.tdiv_one, Int.tmod_one] <;> omega))), ⟨(Eq.trans (b := some (.bool ((((IntKind.i32.wrap (a * b)) : Int) != ((IntKind.i32.wrap (a * b)) : Int))))) (by kernel_rfl) (f_bool (q := false) (bne_eq_false_iff_eq.2 rfl))), ⟨(Eq.trans (b := some (.bool (decide ((b : Int) ≤ (0 : Int))))) (by kernel_rfl) (f_bool (q := true) (decide_eq_true (by omega)))), ⟨(Eq.trans (b := some (.bool ((((tr (a = b)) : Int) != (0 : Int))))) (by kernel_rfl) (f_bool (q := false) (by (try simp only [tr, IntKind.wrap_i64, IntKind.wrap_i32]) <;> (repeat' split) <;> simp only [decide_eq_true_eq, decide_eq_false_iff_not, beq_iff_eq, beq_eq_false_iff_ne, bne_iff_ne, bne_eq_false_iff_eq, ne_eq] <;> first | omega | (subst_vars; simp_all; done) | (simp_all; done)))), ⟨(Eq.trans (b := some (.bool ((((tr (a ≠ b)) : Int) != (1 : Int))))) (by kernel_rfl) (f_bool (q := false) (by (try simp only [tr, IntKind.wrap_i64, IntKind.wrap_i32]) <;> (repeat' split) <;> simp only [decide_eq_true_eq, decide_eq_false_iff_not, beq_iff_eq, beq_eq_false_iff_ne, bne_iff_ne, bne_eq_false_iff_eq, ne_eq] <;> first | omega | (subst_vars; simp_all; done) | (simp_all; done)))), ⟨(Eq.trans (b := some (.bool ((((tr (a < b)) : Int) != (0 : Int))))) (by kernel_rfl) (f_bool (q := false) (by (try simp only [tr, IntKind.wrap_i64, IntKind.wrap_i32]) <;> (repeat' split) <;> simp only [decide_eq_true_eq, decide_eq_false_iff_not, beq_iff_eq, beq_eq_false_iff_ne, bne_iff_ne, bne_eq_false_iff_eq, ne_eq] <;> first | omega | (subst_vars; simp_all; done) | (simp_all; done)))), ⟨(Eq.trans (b := some (.bool ((((tr (a ≤ b)) : Int) != (0 : Int))))) (by kernel_rfl) (f_bool (q := false) (by (try simp only [tr, IntKind.wrap_i64, IntKind.wrap_i32]) <;> (repeat' split) <;> simp only [decide_eq_true_eq, decide_eq_false_iff_not, beq_iff_eq, beq_eq_false_iff_ne, bne_iff_ne, bne_eq_false_iff_eq, ne_eq] <;> first | omega | (subst_vars; simp_all; done) | (simp_all; done)))), ⟨(Eq.trans (b := some (.bool ((((tr (a > b)) : Int) != (1 : Int))))) (by kernel_rfl) (f_bool (q := false) (by (try simp only [tr, IntKind.wrap_i64, IntKind.wrap_i32]) <;> (repeat' split) <;> simp only [decide_eq_true_eq, decide_eq_false_iff_not, beq_iff_eq, beq_eq_false_iff_ne, bne_iff_ne, bne_eq_false_iff_eq, ne_eq] <;> first | omega | (subst_vars; simp_all; done) | (simp_all; done)))), ⟨(Eq.trans (b := some (.bool ((((tr (a ≥ b)) : Int) != (1 : Int))))) (by kernel_rfl) (f_bool (q := false) (by (try simp only [tr, IntKind.wrap_i64, IntKind.wrap_i32]) <;> (repeat' split) <;> simp only [decide_eq_true_eq, decide_eq_false_iff_not, beq_iff_eq, beq_eq_false_iff_ne, bne_iff_ne, bne_eq_false_iff_eq, ne_eq] <;> first | omega | (subst_vars; simp_all; done) | (simp_all; done)))), trivial⟩⟩⟩⟩⟩⟩⟩⟩⟩⟩⟩⟩⟩⟩⟩⟩⟩⟩⟩⟩⟩⟩⟩⟩⟩⟩⟩))
    [(4, [], .ret (.bool true)),
    o1,
    o2,
    o60,
    o97,
    o134,
    o171,
    o205,
    o243,
    o282,
    o321,
    o362,
    o401,
    o439]
    ⟨shown_q a b H0, ⟨q1 a b H0, ⟨q2 a b H0, ⟨q60 a b H0, ⟨q97 a b H0, ⟨q134 a b H0, ⟨q171 a b H0 hc0.1, ⟨q205 a b H0 hc0.1, ⟨q243 a b H0, ⟨q282 a b H0, ⟨q321 a b H0, ⟨q362 a b H0, ⟨q401 a b H0, ⟨q439 a b H0, trivial⟩⟩⟩⟩⟩⟩⟩⟩⟩⟩⟩⟩⟩⟩ (by kernel_rfl) (by kernel_rfl) (by kernel_rfl)
def o442 : Ob := (3, [.sym .i32 0, .sym .i32 1], .ret (.bool true))
theorem q442 (a b : Int) (H : Hy a b) (hc : b ≤ 0 ∧ a < b) : Ans (i0 a b) (s0 a b) o442 := by
  have H0 := H
  have hc0 := hc
  obtain ⟨h1, h2, h3, h4⟩ := H
  obtain ⟨c0, c1⟩ := hc
  have ea := q0_lt a
  have fa : qn a 0 = (a % 4294967296).toNat := rfl
  have eb := q0_lt b
  have fb : qn b 0 = (b % 4294967296).toNat := rfl
  exact ans (fxL ++ [⟨.convI .i64 (.c (.sym .i32 0)), .sym .i64 50⟩,
    ⟨.convI .i64 (.c (.sym .i32 1)), .sym .i64 53⟩,
    ⟨.mxn true (.c (.int .i64 1)) (.c (.sym .i64 53)), .int .i64 1⟩,
    ⟨.bin .quo (.c (.sym .i64 50)) (.c (.int .i64 1)), .sym .i64 79⟩,
    ⟨.bin .rem (.c (.sym .i64 50)) (.c (.int .i64 1)), .int .i64 0⟩,
    ⟨.bin .eql (.c (.sym .i32 0)) (.c (.sym .i32 1)), .bool false⟩,
    ⟨.bin .neq (.c (.sym .i32 0)) (.c (.sym .i32 1)), .bool true⟩,
    ⟨.bin .lss (.c (.sym .i32 0)) (.c (.sym .i32 1)), .bool true⟩,
    ⟨.bin .leq (.c (.sym .i32 0)) (.c (.sym .i32 1)), .bool true⟩,
    ⟨.bin .gtr (.c (.sym .i32 0)) (.c (.sym .i32 1)), .bool false⟩,
    ⟨.bin .geq (.c (.sym .i32 0)) (.c (.sym .i32 1)), .bool false⟩,
    ⟨.bin .add (.c (.sym .i32 0)) (.c (.sym .i32 1)), .sym .i32 65⟩,
    ⟨.convI .i64 (.c (.sym .i32 65)), .sym .i64 66⟩,
    ⟨.bin .neq (.c (.sym .i64 54)) (.c (.sym .i64 66)), .bool false⟩,
    ⟨.bin .sub (.c (.sym .i32 0)) (.c (.sym .i32 1)), .sym .i32 67⟩,
    ⟨.convI .i64 (.c (.sym .i32 67)), .sym .i64 68⟩,
    ⟨.bin .neq (.c (.sym .i64 55)) (.c (.sym .i64 68)), .bool false⟩,
    ⟨.bin .mul (.c (.sym .i32 0)) (.c (.sym .i32 1)), .sym .i32 69⟩,
    ⟨.convI .i64 (.c (.sym .i32 69)), .sym .i64 70⟩,
    ⟨.bin .neq (.c (.sym .i64 56)) (.c (.sym .i64 70)), .bool false⟩,
    ⟨.bin .leq (.c (.sym .i32 1)) (.c (.int .i32 0)), .bool true⟩,
    ⟨.bin .neq (.c (.sym .i64 57)) (.c (.int .i64 0)), .bool false⟩,
    ⟨.bin .neq (.c (.sym .i64 58)) (.c (.int .i64 1)), .bool false⟩,
    ⟨.bin .neq (.c (.sym .i64 59)) (.c (.int .i64 1)), .bool false⟩,
    ⟨.bin .neq (.c (.sym .i64 60)) (.c (.int .i64 1)), .bool false⟩,
    ⟨.bin .neq (.c (.sym .i64 61)) (.c (.int .i64 0)), .bool false⟩,
    ⟨.bin .neq (.c (.sym .i64 62)) (.c (.int .i64 0)), .bool false⟩])
    (okAll_app (fxL_ok a b) (⟨(Eq.trans (b := some (.int .i64 (IntKind.i64.wrap (a : Int)))) (by kernel_rfl) (f_int (p := (IntKind.i64.wrap (a : Int))) (q := (a : Int)) (by simp only [IntKind.wrap_i64, IntKind.wrap_i32, IntKind.wrap_u64, IntKind.wrap_u32, Int.tdiv_one, Int.tmod_one] <;> omega))), ⟨(Eq.trans (b := some (.int .i64 (IntKind.i64.wrap (b : Int)))) (by kernel_rfl) (f_int (p := (IntKind.i64.wrap (b : Int))) (q := (b : Int)) (by simp only [IntKind.wrap_i64, IntKind.wrap_i32, IntKind.wrap_u64, IntKind.wrap_u32, Int.tdiv_one, Int.tmod_one] <;> omega))), ⟨(Eq.trans (b := some (.int .i64 (if (b : Int) > (1 : Int) then (b : Int) else (1 : Int)))) (by kernel_rfl) (f_int (p := (if (b : Int) > (1 : Int) then (b : Int) else (1 : Int))) (q := (1 : Int)) (by split <;> omega))), ⟨(Eq.trans (b := some (.int .i64 (IntKind.i64.wrap (Int.tdiv (a : Int) (1 : Int))))) (by kernel_rfl) (f_int (p := (IntKind.i64.wrap (Int.tdiv (a : Int) (1 : Int)))) (q := ((Int.tdiv a 1) : Int)) (by simp only [IntKind.wrap_i64, IntKind.wrap_i32, IntKind.wrap_u64, IntKind.wrap_u32, Int.tdiv_one, Int.tmod_one]; omega))), ⟨(Eq.trans (b := some (.int .i64 (Int.tmod (a : Int) (1 : Int)))) (by kernel_rfl) (f_int (p := (Int.tmod (a : Int) (1 : Int))) (q := (0 : Int)) (by simp only [Int.tmod_one]))), ⟨(Eq.trans (b := some (.bool (((a : Int) == (b : Int))))) (by kernel_rfl) (f_bool (q := false) (beq_eq_false_iff_ne.2 (by omega)))), ⟨(Eq.trans (b := some (.bool (((a : Int) != (b : Int))))) (by kernel_rfl) (f_bool (q := true) (bne_iff_ne.2 (by omega)))), ⟨(Eq.trans (b := some (.bool (decide ((a : Int) < (b : Int))))) (by kernel_rfl) (f_bool (q := true) (decide_eq_true (by omega)))), ⟨(Eq.trans (b := some (.bool (decide ((a : Int) ≤ (b : Int))))) (by kernel_rfl) (f_bool (q := true) (decide_eq_true (by omega)))), ⟨(Eq.trans (b := some (.bool (decide ((a : Int) > (b : Int))))) (by kernel_rfl) (f_bool (q := false) (decide_eq_false (by omega)))), ⟨(Eq.trans (b := some (.bool (decide ((a : Int) ≥ (b : Int))))) (by kernel_rfl) (f_bool (q := false) (decide_eq_false (by omega)))), ⟨(Eq.trans (b := some (.int .i32 (IntKind.i32.wrap ((a : Int) + (b : Int))))) (by kernel_rfl) (f_int (p := (IntKind.i32.wrap ((a : Int) + (b : Int)))) (q := ((IntKind.i32.wrap (a + b)) : Int)) (rfl))), ⟨(Eq.trans (b := some (.int .i64 (IntKind.i64.wrap ((IntKind.i32.wrap (a + b)) : Int)))) (by kernel_rfl) (f_int (p := (IntKind.i64.wrap ((IntKind.i32.wrap (a + b)) : Int))) (q := ((IntKind.i32.wrap (a + b)) : Int)) (by simp only [IntKind.wrap_i64, IntKind.wrap_i32, IntKind.wrap_u64, IntKind.wrap_u32, Int.tdiv_one, Int.tmod_one] <;> omega))), ⟨(Eq.trans (b := some (.bool ((((IntKind.i32.wrap (a + b)) : Int) != ((IntKind.i32.wrap (a + b)) : Int))))) (by kernel_rfl) (f_bool (q := false) (bne_eq_false_iff_eq.2 rfl))), ⟨(Eq.trans (b := some (.int .i32 (IntKind.i32.wrap ((a : Int) - (b : Int))))) (by kernel_rfl) (f_int (p := (IntKind.i32.wrap ((a : Int) - (b : Int)))) (q := ((IntKind.i32.wrap (a - b)) : Int)) (rfl))), ⟨(Eq.trans (b := some (.int .i64 (IntKind.i64.wrap ((IntKind.i32.wrap (a - b)) : Int)))) (by kernel_rfl) (f_int (p := (IntKind.i64.wrap ((IntKind.i32.wrap (a - b)) : Int))) (q := ((IntKind.i32.wrap (a - b)) : Int)) (by simp only [IntKind.wrap_i64, IntKind.wrap_i32, IntKind.wrap_u64, IntKind.wrap_u32, Int.tdiv_one, Int.tmod_one] <;> omega))), ⟨(Eq.trans (b := some (.bool ((((IntKind.i32.wrap (a - b)) : Int) != ((IntKind.i32.wrap (a - b)) : Int))))) (by kernel_rfl) (f_bool (q := false) (bne_eq_false_iff_eq.2 rfl))), ⟨(Eq.trans (b := some (.int .i32 (IntKind.i32.wrap ((a : Int) * (b : Int))))) (by kernel_rfl) (f_int (p := (IntKind.i32.wrap ((a : Int) * (b : Int)))) (q := ((IntKind.i32.wrap (a * b)) : Int)) (rfl))), ⟨(Eq.trans (b := some (.int .i64 (IntKind.i64.wrap ((IntKind.i32.wrap (a * b)) : Int)))) (by kernel_rfl) (f_int (p := (IntKind.i64.wrap ((IntKind.i32.wrap (a * b)) : Int))) (q := ((IntKind.i32.wrap (a * b)) : Int)) (by simp only [IntKind.wrap_i64, IntKind.wrap_i32, IntKind.wrap_u64, IntKind.wrap_u32, Int.tdiv_one, Int.tmod_one] <;> omega))), ⟨(Eq.trans (b := some (.bool ((((IntKind.i32.wrap (a * b)) : Int) != ((IntKind.i32.wrap (a * b)) : Int))))) (by kernel_rfl) (f_bool (q := false) (bne_eq_false_iff_eq.2 rfl))), ⟨(Eq.trans (b := some (.bool (decide ((b : Int) ≤ (0 : Int))))) (by kernel_rfl) (f_bool (q := true) (decide_eq_true (by omega)))), ⟨(Eq.trans (b := some (.bool ((((tr (a = b)) : Int) != (0 : Int))))) (by kernel_rfl) (f_bool (q := false) (by (try simp only [tr, IntKind.wrap_i64, IntKind.wrap_i32]) <;> (repeat' split) <;> simp only [decide_eq_true_eq, decide_eq_false_iff_not, beq_iff_eq, beq_eq_false_iff_ne, bne_iff_ne, bne_eq_false_iff_eq, ne_eq] <;> first | omega | (subst_vars; simp_all; done) | (simp_all; done)))), ⟨(Eq.trans (b := some (.bool ((((tr (a ≠ b)) : Int) != (1 : Int))))) (by kernel_rfl) (f_bool (q := false) (by (try simp only [tr, IntKind.wrap_i64, IntKind.wrap_i32]) <;> (repeat' split) <;> simp only [decide_eq_true_eq, decide_eq_false_iff_not, beq_iff_eq, beq_eq_false_iff_ne, bne_iff_ne, bne_eq_false_iff_eq, ne_eq] <;> first | omega | (subst_vars; simp_all; done) | (simp_all; done)))), ⟨(Eq.trans (b := some (.bool ((((tr (a < b)) : Int) != (1 : Int))))) (by kernel_rfl) (f_bool (q := false) (by (try simp only [tr, IntKind.wrap_i64, IntKind.wrap_i32]) <;> (repeat' split) <;> simp only [decide_eq_true_eq, decide_eq_false_iff_not, beq_iff_eq, beq_eq_false_iff_ne, bne_iff_ne, bne_eq_false_iff_eq, ne_eq] <;> first | omega | (subst_vars; simp_all; done) | (simp_all; done)))), ⟨(Eq.trans (b := some (.bool ((((tr (a ≤ b)) : Int) != (1 : Int))))) (by kernel_rfl) (f_bool (q := false) (by (try simp only [tr, IntKind.wrap_i64, IntKind.wrap_i32]) <;> (repeat' split) <;> simp only [decide_eq_true_eq, decide_eq_false_iff_not, beq_iff_eq, beq_eq_false_iff_ne, bne_iff_ne, bne_eq_false_iff_eq, ne_eq] <;> first | omega | (subst_vars; simp_all; done) | (simp_all; done)))), ⟨(Eq.trans (b := some (.bool ((((tr (a > b)) : Int) != (0 : Int))))) (by kernel_rfl) (f_bool (q := false) (by (try simp only [tr, IntKind.wrap_i64, IntKind.wrap_i32]) <;> (repeat' split) <;> simp only [decide_eq_true_eq, decide_eq_false_iff_not, beq_iff_eq, beq_eq_false_iff_ne, bne_iff_ne, bne_eq_false_iff_eq, ne_eq] <;> first | omega | (subst_vars; simp_all; done) | (simp_all; done)))), ⟨(Eq.trans (b := some (.bool ((((tr (a ≥ b)) : Int) != (0 : Int))))) (by kernel_rfl) (f_bool (q := false) (by (try simp only [tr, IntKind.wrap_i64, IntKind.wrap_i32]) <;> (repeat' split) <;> simp only [decide_eq_true_eq, decide_eq_false_iff_not, beq_iff_eq, beq_eq_false_iff_ne, bne_iff_ne, bne_eq_false_iff_eq, ne_eq] <;> first | omega | (subst_vars; simp_all; done) | (simp_all; done)))), trivial⟩⟩⟩⟩⟩⟩⟩⟩⟩⟩⟩⟩⟩⟩⟩⟩⟩⟩⟩⟩⟩⟩⟩⟩⟩⟩⟩))
    [(4, [], .ret (.bool true)),
    o1,
    o2,
    o60,
    o97,
    o134,
    o171,
    o205,
    o243,
    o282,
    o321,
    o362,
    o401,
    o439]
    ⟨shown_q a b H0, ⟨q1 a b H0, ⟨q2 a b H0, ⟨q60 a b H0, ⟨q97 a b H0, ⟨q134 a b H0, ⟨q171 a b H0 hc0.1, ⟨q205 a b H0 hc0.1, ⟨q243 a b H0, ⟨q282 a b H0, ⟨q321 a b H0, ⟨q362 a b H0, ⟨q401 a b H0, ⟨q439 a b H0, trivial⟩⟩⟩⟩⟩⟩⟩⟩⟩⟩⟩⟩⟩⟩ (by kernel_rfl) (by kernel_rfl) (by kernel_rfl)
def o443 : Ob := (170, [.int .i64 16, .sym .i64 50, .sym .i64 53], .ret (.sym .i64 75))
theorem q443 (a b : Int) (H : Hy a b) (hc : 0 < b ∧ a.tmod b < 0) : Ans (i0 a b) (s0 a b) o443 := by
  have H0 := H
  have hc0 := hc
  obtain ⟨h1, h2, h3, h4⟩ := H
  obtain ⟨d1, d2, d3, d4, d5⟩ := divs (a := a) hc.1
  obtain ⟨t1, t2⟩ := tdiv_bd hc.1 h1 h2
  obtain ⟨u1, u2⟩ := div_floor (a := a) hc.1
  have u3 : -2147483648 ≤ a / b := Int.le_ediv_of_mul_le hc.1 (by omega)
  obtain ⟨c0, c1⟩ := hc
  have ea := q0_lt a
  have fa : qn a 0 = (a % 4294967296).toNat := rfl
  have eb := q0_lt b
  have fb : qn b 0 = (b % 4294967296).toNat := rfl
  exact ans [⟨.convI .i32 (.c (.sym .i64 50)), .sym .i32 0⟩,
    ⟨.convI .i32 (.c (.sym .i64 53)), .sym .i32 1⟩,
    ⟨.bin .quo (.c (.sym .i32 0)) (.c (.sym .i32 1)), .sym .i32 71⟩,
    ⟨.bin .rem (.c (.sym .i32 0)) (.c (.sym .i32 1)), .sym .i32 72⟩,
    ⟨.bin .lss (.c (.sym .i32 72)) (.c (.int .i32 0)), .bool true⟩,
    ⟨.bin .sub (.c (.sym .i32 71)) (.c (.int .i32 1)), .sym .i32 73⟩,
    ⟨.bin .add (.c (.sym .i32 72)) (.c (.sym .i32 1)), .sym .i32 74⟩,
    ⟨.convI .i64 (.c (.sym .i32 73)), .sym .i64 75⟩]
    (⟨(Eq.trans (b := some (.int .i32 (IntKind.i32.wrap (a : Int)))) (by kernel_rfl) (f_int (p := (IntKind.i32.wrap (a : Int))) (q := (a : Int)) (by simp only [IntKind.wrap_i64, IntKind.wrap_i32, IntKind.wrap_u64, IntKind.wrap_u32, Int.tdiv_one, Int.tmod_one] <;> omega))), ⟨(Eq.trans (b := some (.int .i32 (IntKind.i32.wrap (b : Int)))) (by kernel_rfl) (f_int (p := (IntKind.i32.wrap (b : Int))) (q := (b : Int)) (by simp only [IntKind.wrap_i64, IntKind.wrap_i32, IntKind.wrap_u64, IntKind.wrap_u32, Int.tdiv_one, Int.tmod_one] <;> omega))), ⟨(Eq.trans (b := pureB id' (.bin .quo (.c (.int .i32 (a : Int))) (.c (.int .i32 (b : Int))))) (by kernel_rfl) (q_quo (r := ((Int.tdiv a b) : Int)) (by omega) (by simp only [IntKind.wrap_i64, IntKind.wrap_i32, IntKind.wrap_u64, IntKind.wrap_u32, Int.tdiv_one, Int.tmod_one] <;> omega))), ⟨(Eq.trans (b := pureB id' (.bin .rem (.c (.int .i32 (a : Int))) (.c (.int .i32 (b : Int))))) (by kernel_rfl) (q_rem (r := ((Int.tmod a b) : Int)) (by omega) (by omega))), ⟨(Eq.trans (b := some (.bool (decide (((Int.tmod a b) : Int) < (0 : Int))))) (by kernel_rfl) (f_bool (q := true) (decide_eq_true (by omega)))), ⟨(Eq.trans (b := some (.int .i32 (IntKind.i32.wrap (((Int.tdiv a b) : Int) - (1 : Int))))) (by kernel_rfl) (f_int (p := (IntKind.i32.wrap (((Int.tdiv a b) : Int) - (1 : Int)))) (q := (((Int.tdiv a b) - 1) : Int)) (by simp only [IntKind.wrap_i64, IntKind.wrap_i32, IntKind.wrap_u64, IntKind.wrap_u32, Int.tdiv_one, Int.tmod_one] <;> omega))), ⟨(Eq.trans (b := some (.int .i32 (IntKind.i32.wrap (((Int.tmod a b) : Int) + (b : Int))))) (by kernel_rfl) (f_int (p := (IntKind.i32.wrap (((Int.tmod a b) : Int) + (b : Int)))) (q := (((Int.tmod a b) + b) : Int)) (by simp only [IntKind.wrap_i64, IntKind.wrap_i32, IntKind.wrap_u64, IntKind.wrap_u32, Int.tdiv_one, Int.tmod_one] <;> omega))), ⟨(Eq.trans (b := some (.int .i64 (IntKind.i64.wrap (((Int.tdiv a b) - 1) : Int)))) (by kernel_rfl) (f_int (p := (IntKind.i64.wrap (((Int.tdiv a b) - 1) : Int))) (q := (((Int.tdiv a b) - 1) : Int)) (by simp only [IntKind.wrap_i64, IntKind.wrap_i32, IntKind.wrap_u64, IntKind.wrap_u32, Int.tdiv_one, Int.tmod_one] <;> omega))), trivial⟩⟩⟩⟩⟩⟩⟩⟩)
    []
    trivial (by kernel_rfl) (by kernel_rfl) (by kernel_rfl)
def o444 : Ob := (170, [.int .i64 16, .sym .i64 50, .sym .i64 53], .ret (.sym .i64 76))
theorem q444 (a b : Int) (H : Hy a b) (hc : 0 < b ∧ 0 ≤ a.tmod b) : Ans (i0 a b) (s0 a b) o444 := by
  have H0 := H
  have hc0 := hc
  obtain ⟨h1, h2, h3, h4⟩ := H
  obtain ⟨d1, d2, d3, d4, d5⟩ := divs (a := a) hc.1
  obtain ⟨t1, t2⟩ := tdiv_bd hc.1 h1 h2
  obtain ⟨u1, u2⟩ := div_floor (a := a) hc.1
  have u3 : -2147483648 ≤ a / b := Int.le_ediv_of_mul_le hc.1 (by omega)
  obtain ⟨c0, c1⟩ := hc
  have ea := q0_lt a
  have fa : qn a 0 = (a % 4294967296).toNat := rfl
  have eb := q0_lt b
  have fb : qn b 0 = (b % 4294967296).toNat := rfl
  exact ans [⟨.convI .i32 (.c (.sym .i64 50)), .sym .i32 0⟩,
    ⟨.convI .i32 (.c (.sym .i64 53)), .sym .i32 1⟩,
    ⟨.bin .quo (.c (.sym .i32 0)) (.c (.sym .i32 1)), .sym .i32 71⟩,
    ⟨.bin .rem (.c (.sym .i32 0)) (.c (.sym .i32 1)), .sym .i32 72⟩,
    ⟨.bin .lss (.c (.sym .i32 72)) (.c (.int .i32 0)), .bool false⟩,
    ⟨.convI .i64 (.c (.sym .i32 71)), .sym .i64 76⟩]
    (⟨(Eq.trans (b := some (.int .i32 (IntKind.i32.wrap (a : Int)))) (by kernel_rfl) (f_int (p := (IntKind.i32.wrap (a : Int))) (q := (a : Int)) (by simp only [IntKind.wrap_i64, IntKind.wrap_i32, IntKind.wrap_u64, IntKind.wrap_u32, Int.tdiv_one, Int.tmod_one] <;> omega))), ⟨(Eq.trans (b := some (.int .i32 (IntKind.i32.wrap (b : Int)))) (by kernel_rfl) (f_int (p := (IntKind.i32.wrap (b : Int))) (q := (b : Int)) (by simp only [IntKind.wrap_i64, IntKind.wrap_i32, IntKind.wrap_u64, IntKind.wrap_u32, Int.tdiv_one, Int.tmod_one] <;> omega))), ⟨(Eq.trans (b := pureB id' (.bin .quo (.c (.int .i32 (a : Int))) (.c (.int .i32 (b : Int))))) (by kernel_rfl) (q_quo (r := ((Int.tdiv a b) : Int)) (by omega) (by simp only [IntKind.wrap_i64, IntKind.wrap_i32, IntKind.wrap_u64, IntKind.wrap_u32, Int.tdiv_one, Int.tmod_one] <;> omega))), ⟨(Eq.trans (b := pureB id' (.bin .rem (.c (.int .i32 (a : Int))) (.c (.int .i32 (b : Int))))) (by kernel_rfl) (q_rem (r := ((Int.tmod a b) : Int)) (by omega) (by omega))), ⟨(Eq.trans (b := some (.bool (decide (((Int.tmod a b) : Int) < (0 : Int))))) (by kernel_rfl) (f_bool (q := false) (decide_eq_false (by omega)))), ⟨(Eq.trans (b := some (.int .i64 (IntKind.i64.wrap ((Int.tdiv a b) : Int)))) (by kernel_rfl) (f_int (p := (IntKind.i64.wrap ((Int.tdiv a b) : Int))) (q := ((Int.tdiv a b) : Int)) (by simp only [IntKind.wrap_i64, IntKind.wrap_i32, IntKind.wrap_u64, IntKind.wrap_u32, Int.tdiv_one, Int.tmod_one] <;> omega))), trivial⟩⟩⟩⟩⟩⟩)
    []
    trivial (by kernel_rfl) (by kernel_rfl) (by kernel_rfl)
def o445 : Ob := (170, [.int .i64 16, .sym .i64 50, .sym .i64 53], .ret (.sym .i64 63))
theorem q445 (a b : Int) (H : Hy a b) (hc : 0 < b) : Ans (i0 a b) (s0 a b) o445 := by
  show Ans (i0 a b) (s0 a b) (170, [.int .i64 16, .sym .i64 50, .sym .i64 53], .ret (.sym .i64 63))
  obtain ⟨u1, u2⟩ := div_floor (a := a) hc
  by_cases hr : a.tmod b < 0
  · have := u1 hr
    exact (q443 a b H ⟨hc, hr⟩).den (congrArg (Vl.int .i64) ((by (first | rfl | omega | (simp only [tr] <;> split <;> omega) | (simp only [tr] <;> omega)) : (((Int.tdiv a b) - 1) : Int) = ((a / b) : Int))))
  · have := u2 (by omega)
    exact (q444 a b H ⟨hc, by omega⟩).den (congrArg (Vl.int .i64) ((by (first | rfl | omega | (simp only [tr] <;> split <;> omega) | (simp only [tr] <;> omega)) : ((Int.tdiv a b) : Int) = ((a / b) : Int))))
def o446 : Ob := (5, [.symS 37, .nils], .ret (.tup [.agg [.str [77], .bool false, .nils, .nils, .sl [] [.agg [.int .i64 0, .int .i64 0, .int .i64 0, .int .i64 0, .nils, .int .i64 0, .int .i64 0], .agg [.int .i64 1, .int .i64 0, .int .i64 0, .int .i64 0, .nils, .int .i64 4, .int .i64 0], .agg [.int .i64 2, .int .i64 0, .int .i64 0, .int .i64 0, .nils, .int .i64 1, .int .i64 0], .agg [.int .i64 3, .int .i64 0, .int .i64 0, .int .i64 0, .nils, .int .i64 1, .int .i64 0], .agg [.int .i64 4, .int .i64 0, .int .i64 0, .int .i64 0, .nils, .int .i64 1, .int .i64 0], .agg [.int .i64 5, .int .i64 0, .int .i64 0, .int .i64 0, .nils, .int .i64 4, .int .i64 0], .agg [.int .i64 6, .int .i64 0, .int .i64 0, .int .i64 0, .nils, .int .i64 4, .int .i64 0], .agg [.int .i64 7, .int .i64 0, .int .i64 0, .int .i64 0, .nils, .int .i64 0, .int .i64 0]], .nils, .sl [] [.agg [.str [99], .int .i64 1, .sym .i64 63, .str [], .bool false]], .nils, .nils, .nils], .int .i64 0, .int .i64 0]))
theorem q446 (a b : Int) (H : Hy a b) (hc : 0 < b) : Ans (i0 a b) (s0 a b) o446 := by
  have H0 := H
  have hc0 := hc
  obtain ⟨h1, h2, h3, h4⟩ := H
  obtain ⟨d1, d2, d3, d4, d5⟩ := divs (a := a) hc
  obtain ⟨t1, t2⟩ := tdiv_bd hc h1 h2
  obtain ⟨u1, u2⟩ := div_floor (a := a) hc
  have u3 : -2147483648 ≤ a / b := Int.le_ediv_of_mul_le hc (by omega)
  have ea := q0_lt a
  have fa : qn a 0 = (a % 4294967296).toNat := rfl
  have eb := q0_lt b
  have fb : qn b 0 = (b % 4294967296).toNat := rfl
  exact ans [⟨.bin .gtr (.c (.sym .i64 53)) (.c (.int .i64 0)), .bool true⟩]
    (⟨(Eq.trans (b := some (.bool (decide ((b : Int) > (0 : Int))))) (by kernel_rfl) (f_bool (q := true) (decide_eq_true (by omega)))), trivial⟩)
    [o167,
    o54,
    o170,
    o445]
    ⟨q167 a b H0, ⟨q54 a b H0, ⟨q170 a b H0, ⟨q445 a b H0 hc0, trivial⟩⟩⟩⟩ (by kernel_rfl) (by kernel_rfl) (by kernel_rfl)
def o447 : Ob := (170, [.int .i64 17, .sym .i64 50, .sym .i64 53], .ret (.sym .i64 77))
theorem q447 (a b : Int) (H : Hy a b) (hc : 0 < b ∧ a.tmod b < 0) : Ans (i0 a b) (s0 a b) o447 := by
  have H0 := H
  have hc0 := hc
  obtain ⟨h1, h2, h3, h4⟩ := H
  obtain ⟨d1, d2, d3, d4, d5⟩ := divs (a := a) hc.1
  obtain ⟨t1, t2⟩ := tdiv_bd hc.1 h1 h2
  obtain ⟨u1, u2⟩ := div_floor (a := a) hc.1
  have u3 : -2147483648 ≤ a / b := Int.le_ediv_of_mul_le hc.1 (by omega)
  obtain ⟨c0, c1⟩ := hc
  have ea := q0_lt a
  have fa : qn a 0 = (a % 4294967296).toNat := rfl
  have eb := q0_lt b
  have fb : qn b 0 = (b % 4294967296).toNat := rfl
  exact ans [⟨.convI .i32 (.c (.sym .i64 50)), .sym .i32 0⟩,
    ⟨.convI .i32 (.c (.sym .i64 53)), .sym .i32 1⟩,
    ⟨.bin .quo (.c (.sym .i32 0)) (.c (.sym .i32 1)), .sym .i32 71⟩,
    ⟨.bin .rem (.c (.sym .i32 0)) (.c (.sym .i32 1)), .sym .i32 72⟩,
    ⟨.bin .lss (.c (.sym .i32 72)) (.c (.int .i32 0)), .bool true⟩,
    ⟨.bin .sub (.c (.sym .i32 71)) (.c (.int .i32 1)), .sym .i32 73⟩,
    ⟨.bin .add (.c (.sym .i32 72)) (.c (.sym .i32 1)), .sym .i32 74⟩,
    ⟨.convI .i64 (.c (.sym .i32 74)), .sym .i64 77⟩]
    (⟨(Eq.trans (b := some (.int .i32 (IntKind.i32.wrap (a : Int)))) (by kernel_rfl) (f_int (p := (IntKind.i32.wrap (a : Int))) (q := (a : Int)) (by simp only [IntKind.wrap_i64, IntKind.wrap_i32, IntKind.wrap_u64, IntKind.wrap_u32, Int.tdiv_one, Int.tmod_one] <;> omega))), ⟨(Eq.trans (b := some (.int .i32 (IntKind.i32.wrap (b : Int)))) (by kernel_rfl) (f_int (p := (IntKind.i32.wrap (b : Int))) (q := (b : Int)) (by simp only [IntKind.wrap_i64, IntKind.wrap_i32, IntKind.wrap_u64, IntKind.wrap_u32, Int.tdiv_one, Int.tmod_one] <;> omega))), ⟨(Eq.trans (b := pureB id' (.bin .quo (.c (.int .i32 (a : Int))) (.c (.int .i32 (b : Int))))) (by kernel_rfl) (q_quo (r := ((Int.tdiv a b) : Int)) (by omega) (by simp only [IntKind.wrap_i64, IntKind.wrap_i32, IntKind.wrap_u64, IntKind.wrap_u32, Int.tdiv_one, Int.tmod_one] <;> omega))), ⟨(Eq.trans (b := pureB id' (.bin .rem (.c (.int .i32 (a : Int))) (.c (.int .i32 (b : Int))))) (by kernel_rfl) (q_rem (r := ((Int.tmod a b) : Int)) (by omega) (by omega))), ⟨(Eq.trans (b := some (.bool (decide (((Int.tmod a b) : Int) < (0 : Int))))) (by kernel_rfl) (f_bool (q := true) (decide_eq_true (by omega)))), ⟨(Eq.trans (b := some (.int .i32 (IntKind.i32.wrap (((Int.tdiv a b) : Int) - (1 : Int))))) (by kernel_rfl) (f_int (p := (IntKind.i32.wrap (((Int.tdiv a b) : Int) - (1 : Int)))) (q := (((Int.tdiv a b) - 1) : Int)) (by simp only [IntKind.wrap_i64, IntKind.wrap_i32, IntKind.wrap_u64, IntKind.wrap_u32, Int.tdiv_one, Int.tmod_one] <;> omega))), ⟨(Eq.trans (b := some (.int .i32 (IntKind.i32.wrap (((Int.tmod a b) : Int) + (b : Int))))) (by kernel_rfl) (f_int (p := (IntKind.i32.wrap (((Int.tmod a b) : Int) + (b : Int)))) (q := (((Int.tmod a b) + b) : Int)) (by simp only [IntKind.wrap_i64, IntKind.wrap_i32, IntKind.wrap_u64, IntKind.wrap_u32, Int.tdiv_one, Int.tmod_one] <;> omega))), ⟨(Eq.trans (b := some (.int .i64 (IntKind.i64.wrap (((Int.tmod a b) + b) : Int)))) (by kernel_rfl) (f_int (p := (IntKind.i64.wrap (((Int.tmod a b) + b) : Int))) (q := (((Int.tmod a b) + b) : Int)) (by simp only [IntKind.wrap_i64, IntKind.wrap_i32, IntKind.wrap_u64, IntKind.wrap_u32, Int.tdiv_one, Int.tmod_one] <;> omega))), trivial⟩⟩⟩⟩⟩⟩⟩⟩)
    []
    trivial (by kernel_rfl) (by kernel_rfl) (by kernel_rfl)
def o448 : Ob := (170, [.int .i64 17, .sym .i64 50, .sym .i64 53], .ret (.sym .i64 78))
theorem q448 (a b : Int) (H : Hy a b) (hc : 0 < b ∧ 0 ≤ a.tmod b) : Ans (i0 a b) (s0 a b) o448 := by
  have H0 := H
  have hc0 := hc
  obtain ⟨h1, h2, h3, h4⟩ := H
  obtain ⟨d1, d2, d3, d4, d5⟩ := divs (a := a) hc.1
  obtain ⟨t1, t2⟩ := tdiv_bd hc.1 h1 h2
  obtain ⟨u1, u2⟩ := div_floor (a := a) hc.1
  have u3 : -2147483648 ≤ a / b := Int.le_ediv_of_mul_le hc.1 (by omega)
  obtain ⟨c0, c1⟩ := hc
  have ea := q0_lt a
  have fa : qn a 0 = (a % 4294967296).toNat := rfl
  have eb := q0_lt b
  have fb : qn b 0 = (b % 4294967296).toNat := rfl
  exact ans [⟨.convI .i32 (.c (.sym .i64 50)), .sym .i32 0⟩,
    ⟨.convI .i32 (.c (.sym .i64 53)), .sym .i32 1⟩,
    ⟨.bin .quo (.c (.sym .i32 0)) (.c (.sym .i32 1)), .sym .i32 71⟩,
    ⟨.bin .rem (.c (.sym .i32 0)) (.c (.sym .i32 1)), .sym .i32 72⟩,
    ⟨.bin .lss (.c (.sym .i32 72)) (.c (.int .i32 0)), .bool false⟩,
    ⟨.convI .i64 (.c (.sym .i32 72)), .sym .i64 78⟩]
    (⟨(Eq.trans (b := some (.int .i32 (IntKind.i32.wrap (a : Int)))) (by kernel_rfl) (f_int (p := (IntKind.i32.wrap (a : Int))) (q := (a : Int)) (by simp only [IntKind.wrap_i64, IntKind.wrap_i32, IntKind.wrap_u64, IntKind.wrap_u32, Int.tdiv_one, Int.tmod_one] <;> omega))), ⟨(Eq.trans (b := some (.int .i32 (IntKind.i32.wrap (b : Int)))) (by kernel_rfl) (f_int (p := (IntKind.i32.wrap (b : Int))) (q := (b : Int)) (by simp only [IntKind.wrap_i64, IntKind.wrap_i32, IntKind.wrap_u64, IntKind.wrap_u32, Int.tdiv_one, Int.tmod_one] <;> omega))), ⟨(Eq.trans (b := pureB id' (.bin .quo (.c (.int .i32 (a : Int))) (.c (.int .i32 (b : Int))))) (by kernel_rfl) (q_quo (r := ((Int.tdiv a b) : Int)) (by omega) (by simp only [IntKind.wrap_i64, IntKind.wrap_i32, IntKind.wrap_u64, IntKind.wrap_u32, Int.tdiv_one, Int.tmod_one] <;> omega))), ⟨(Eq.trans (b := pureB id' (.bin .rem (.c (.int .i32 (a : Int))) (.c (.int .i32 (b : Int))))) (by kernel_rfl) (q_rem (r := ((Int.tmod a b) : Int)) (by omega) (by omega))), ⟨(Eq.trans (b := some (.bool (decide (((Int.tmod a b) : Int) < (0 : Int))))) (by kernel_rfl) (f_bool (q := false) (decide_eq_false (by omega)))), ⟨(Eq.trans (b := some (.int .i64 (IntKind.i64.wrap ((Int.tmod a b) : Int)))) (by kernel_rfl) (f_int (p := (IntKind.i64.wrap ((Int.tmod a b) : Int))) (q := ((Int.tmod a b) : Int)) (by simp only [IntKind.wrap_i64, IntKind.wrap_i32, IntKind.wrap_u64, IntKind.wrap_u32, Int.tdiv_one, Int.tmod_one] <;> omega))), trivial⟩⟩⟩⟩⟩⟩)
    []
    trivial (by kernel_rfl) (by kernel_rfl) (by kernel_rfl)
def o449 : Ob := (170, [.int .i64 17, .sym .i64 50, .sym .i64 53], .ret (.sym .i64 64))
theorem q449 (a b : Int) (H : Hy a b) (hc : 0 < b) : Ans (i0 a b) (s0 a b) o449 := by
  show Ans (i0 a b) (s0 a b) (170, [.int .i64 17, .sym .i64 50, .sym .i64 53], .ret (.sym .i64 64))
  obtain ⟨u1, u2⟩ := div_floor (a := a) hc
  by_cases hr : a.tmod b < 0
  · have := u1 hr
    exact (q447 a b H ⟨hc, hr⟩).den (congrArg (Vl.int .i64) ((by (first | rfl | omega | (simp only [tr] <;> split <;> omega) | (simp only [tr] <;> omega)) : (((Int.tmod a b) + b) : Int) = ((a % b) : Int))))
  · have := u2 (by omega)
    exact (q448 a b H ⟨hc, by omega⟩).den (congrArg (Vl.int .i64) ((by (first | rfl | omega | (simp only [tr] <;> split <;> omega) | (simp only [tr] <;> omega)) : ((Int.tmod a b) : Int) = ((a % b) : Int))))
def o450 : Ob := (5, [.symS 38, .nils], .ret (.tup [.agg [.str [77], .bool false, .nils, .nils, .sl [] [.agg [.int .i64 0, .int .i64 0, .int .i64 0, .int .i64 0, .nils, .int .i64 0, .int .i64 0], .agg [.int .i64 1, .int .i64 0, .int .i64 0, .int .i64 0, .nils, .int .i64 4, .int .i64 0], .agg [.int .i64 2, .int .i64 0, .int .i64 0, .int .i64 0, .nils, .int .i64 1, .int .i64 0], .agg [.int .i64 3, .int .i64 0, .int .i64 0, .int .i64 0, .nils, .int .i64 1, .int .i64 0], .agg [.int .i64 4, .int .i64 0, .int .i64 0, .int .i64 0, .nils, .int .i64 1, .int .i64 0], .agg [.int .i64 5, .int .i64 0, .int .i64 0, .int .i64 0, .nils, .int .i64 4, .int .i64 0], .agg [.int .i64 6, .int .i64 0, .int .i64 0, .int .i64 0, .nils, .int .i64 4, .int .i64 0], .agg [.int .i64 7, .int .i64 0, .int .i64 0, .int .i64 0, .nils, .int .i64 0, .int .i64 0]], .nils, .sl [] [.agg [.str [99], .int .i64 1, .sym .i64 64, .str [], .bool false]], .nils, .nils, .nils], .int .i64 0, .int .i64 0]))
theorem q450 (a b : Int) (H : Hy a b) (hc : 0 < b) : Ans (i0 a b) (s0 a b) o450 := by
  have H0 := H
  have hc0 := hc
  obtain ⟨h1, h2, h3, h4⟩ := H
  obtain ⟨d1, d2, d3, d4, d5⟩ := divs (a := a) hc
  obtain ⟨t1, t2⟩ := tdiv_bd hc h1 h2
  obtain ⟨u1, u2⟩ := div_floor (a := a) hc
  have u3 : -2147483648 ≤ a / b := Int.le_ediv_of_mul_le hc (by omega)
  have ea := q0_lt a
  have fa : qn a 0 = (a % 4294967296).toNat := rfl
  have eb := q0_lt b
  have fb : qn b 0 = (b % 4294967296).toNat := rfl
  exact ans [⟨.bin .gtr (.c (.sym .i64 53)) (.c (.int .i64 0)), .bool true⟩]
    (⟨(Eq.trans (b := some (.bool (decide ((b : Int) > (0 : Int))))) (by kernel_rfl) (f_bool (q := true) (decide_eq_true (by omega)))), trivial⟩)
    [o204,
    o54,
    o170,
    o449]
    ⟨q204 a b H0, ⟨q54 a b H0, ⟨q170 a b H0, ⟨q449 a b H0 hc0, trivial⟩⟩⟩⟩ (by kernel_rfl) (by kernel_rfl) (by kernel_rfl)
def o451 : Ob := (3, [.sym .i32 0, .sym .i32 1], .ret (.bool true))
theorem q451 (a b : Int) (H : Hy a b) (hc : 0 < b ∧ a = b ∧ 0 ≤ a.tmod b) : Ans (i0 a b) (s0 a b) o451 := by
  have H0 := H
  have hc0 := hc
  obtain ⟨h1, h2, h3, h4⟩ := H
  obtain ⟨d1, d2, d3, d4, d5⟩ := divs (a := a) hc.1
  obtain ⟨t1, t2⟩ := tdiv_bd hc.1 h1 h2
  obtain ⟨u1, u2⟩ := div_floor (a := a) hc.1
  have u3 : -2147483648 ≤ a / b := Int.le_ediv_of_mul_le hc.1 (by omega)
  obtain ⟨c0, c1, c2⟩ := hc
  have v1 : a.tdiv b = 1 := by rw [c1]; exact Int.tdiv_self (by omega)
  have v2 : a.tmod b = 0 := by rw [c1]; exact Int.tmod_self
  have ea := q0_lt a
  have fa : qn a 0 = (a % 4294967296).toNat := rfl
  have eb := q0_lt b
  have fb : qn b 0 = (b % 4294967296).toNat := rfl
  exact ans (fxL ++ [⟨.convI .i64 (.c (.sym .i32 0)), .sym .i64 50⟩,
    ⟨.convI .i64 (.c (.sym .i32 1)), .sym .i64 53⟩,
    ⟨.mxn true (.c (.int .i64 1)) (.c (.sym .i64 53)), .sym .i64 80⟩,
    ⟨.bin .quo (.c (.sym .i64 50)) (.c (.sym .i64 80)), .int .i64 1⟩,
    ⟨.bin .rem (.c (.sym .i64 50)) (.c (.sym .i64 80)), .int .i64 0⟩,
    ⟨.bin .eql (.c (.sym .i32 0)) (.c (.sym .i32 1)), .bool true⟩,
    ⟨.bin .neq (.c (.sym .i32 0)) (.c (.sym .i32 1)), .bool false⟩,
    ⟨.bin .lss (.c (.sym .i32 0)) (.c (.sym .i32 1)), .bool false⟩,
    ⟨.bin .leq (.c (.sym .i32 0)) (.c (.sym .i32 1)), .bool true⟩,
    ⟨.bin .gtr (.c (.sym .i32 0)) (.c (.sym .i32 1)), .bool false⟩,
    ⟨.bin .geq (.c (.sym .i32 0)) (.c (.sym .i32 1)), .bool true⟩,
    ⟨.bin .add (.c (.sym .i32 0)) (.c (.sym .i32 1)), .sym .i32 65⟩,
    ⟨.convI .i64 (.c (.sym .i32 65)), .sym .i64 66⟩,
    ⟨.bin .neq (.c (.sym .i64 54)) (.c (.sym .i64 66)), .bool false⟩,
    ⟨.bin .sub (.c (.sym .i32 0)) (.c (.sym .i32 1)), .int .i32 0⟩,
    ⟨.bin .neq (.c (.sym .i64 55)) (.c (.int .i64 0)), .bool false⟩,
    ⟨.bin .mul (.c (.sym .i32 0)) (.c (.sym .i32 1)), .sym .i32 69⟩,
    ⟨.convI .i64 (.c (.sym .i32 69)), .sym .i64 70⟩,
    ⟨.bin .neq (.c (.sym .i64 56)) (.c (.sym .i64 70)), .bool false⟩,
    ⟨.bin .leq (.c (.sym .i32 1)) (.c (.int .i32 0)), .bool false⟩,
    ⟨.bin .neq (.c (.sym .i64 63)) (.c (.int .i64 1)), .bool false⟩,
    ⟨.bin .neq (.c (.sym .i64 64)) (.c (.int .i64 0)), .bool false⟩,
    ⟨.bin .neq (.c (.sym .i64 57)) (.c (.int .i64 1)), .bool false⟩,
    ⟨.bin .neq (.c (.sym .i64 58)) (.c (.int .i64 0)), .bool false⟩,
    ⟨.bin .neq (.c (.sym .i64 59)) (.c (.int .i64 0)), .bool false⟩,
    ⟨.bin .neq (.c (.sym .i64 60)) (.c (.int .i64 1)), .bool false⟩,
    ⟨.bin .neq (.c (.sym .i64 61)) (.c (.int .i64 0)), .bool false⟩,
    ⟨.bin .neq (.c (.sym .i64 62)) (.c (.int .i64 1)), .bool false⟩])
    (okAll_app (fxL_ok a b) (⟨(Eq.trans (b := some (.int .i64 (IntKind.i64.wrap (a : Int)))) (by kernel_rfl) (f_int (p := (IntKind.i64.wrap (a : Int))) (q := (a : Int)) (by simp only [IntKind.wrap_i64, IntKind.wrap_i32, IntKind.wrap_u64, IntKind.wrap_u32, Int.tdiv_one, Int.tmod_one] <;> omega))), ⟨(Eq.trans (b := some (.int .i64 (IntKind.i64.wrap (b : Int)))) (by kernel_rfl) (f_int (p := (IntKind.i64.wrap (b : Int))) (q := (b : Int)) (by simp only [IntKind.wrap_i64, IntKind.wrap_i32, IntKind.wrap_u64, IntKind.wrap_u32, Int.tdiv_one, Int.tmod_one] <;> omega))), ⟨(Eq.trans (b := some (.int .i64 (if (b : Int) > (1 : Int) then (b : Int) else (1 : Int)))) (by kernel_rfl) (f_int (p := (if (b : Int) > (1 : Int) then (b : Int) else (1 : Int))) (q := (b : Int)) (by split <;> omega))), ⟨(Eq.trans (b := pureB id' (.bin .quo (.c (.int .i64 (a : Int))) (.c (.int .i64 (b : Int))))) (by kernel_rfl) (q_quo (r := (1 : Int)) (by omega) (by simp only [IntKind.wrap_i64, IntKind.wrap_i32, IntKind.wrap_u64, IntKind.wrap_u32, Int.tdiv_one, Int.tmod_one] <;> omega))), ⟨(Eq.trans (b := pureB id' (.bin .rem (.c (.int .i64 (a : Int))) (.c (.int .i64 (b : Int))))) (by kernel_rfl) (q_rem (r := (0 : Int)) (by omega) (by omega))), ⟨(Eq.trans (b := some (.bool (((a : Int) == (b : Int))))) (by kernel_rfl) (f_bool (q := true) (beq_iff_eq.2 (by omega)))), ⟨(Eq.trans (b := some (.bool (((a : Int) != (b : Int))))) (by kernel_rfl) (f_bool (q := false) (bne_eq_false_iff_eq.2 (by omega)))), ⟨(Eq.trans (b := some (.bool (decide ((a : Int) < (b : Int))))) (by kernel_rfl) (f_bool (q := false) (decide_eq_false (by omega)))), ⟨(Eq.trans (b := some (.bool (decide ((a : Int) ≤ (b : Int))))) (by kernel_rfl) (f_bool (q := true) (decide_eq_true (by omega)))), ⟨(Eq.trans (b := some (.bool (decide ((a : Int) > (b : Int))))) (by kernel_rfl) (f_bool (q := false) (decide_eq_false (by omega)))), ⟨(Eq.trans (b := some (.bool (decide ((a : Int) ≥ (b : Int))))) (by kernel_rfl) (f_bool (q := true) (decide_eq_true (by omega)))), ⟨(Eq.trans (b := some (.int .i32 (IntKind.i32.wrap ((a : Int) + (b : Int))))) (by kernel_rfl) (f_int (p := (IntKind.i32.wrap ((a : Int) + (b : Int)))) (q := ((IntKind.i32.wrap (a + b)) : Int)) (rfl))), ⟨(Eq.trans (b := some (.int .i64 (IntKind.i64.wrap ((IntKind.i32.wrap (a + b)) : Int)))) (by kernel_rfl) (f_int (p := (IntKind.i64.wrap ((IntKind.i32.wrap (a + b)) : Int))) (q := ((IntKind.i32.wrap (a + b)) : Int)) (by simp only [IntKind.wrap_i64, IntKind.wrap_i32, IntKind.wrap_u64, IntKind.wrap_u32, Int.tdiv_one, Int.tmod_one] <;> omega))), ⟨(Eq.trans (b := some (.bool ((((IntKind.i32.wrap (a + b)) : Int) != ((IntKind.i32.wrap (a + b)) : Int))))) (by kernel_rfl) (f_bool (q := false) (bne_eq_false_iff_eq.2 rfl))), ⟨(Eq.trans (b := some (.int .i32 (IntKind.i32.wrap ((a : Int) - (b : Int))))) (by kernel_rfl) (f_int (p := (IntKind.i32.wrap ((a : Int) - (b : Int)))) (q := (0 : Int)) (by simp only [IntKind.wrap_i64, IntKind.wrap_i32, IntKind.wrap_u64, IntKind.wrap_u32, Int.tdiv_one, Int.tmod_one] <;> omega))), ⟨(Eq.trans (b := some (.bool ((((IntKind.i32.wrap (a - b)) : Int) != (0 : Int))))) (by kernel_rfl) (f_bool (q := false) (bne_eq_false_iff_eq.2 (by simp only [IntKind.wrap_i64, IntKind.wrap_i32, IntKind.wrap_u64, IntKind.wrap_u32, Int.tdiv_one, Int.tmod_one] <;> omega)))), ⟨(Eq.trans (b := some (.int .i32 (IntKind.i32.wrap ((a : Int) * (b : Int))))) (by kernel_rfl) (f_int (p := (IntKind.i32.wrap ((a : Int) * (b : Int)))) (q := ((IntKind.i32.wrap (a * b)) : Int)) (rfl))), ⟨(Eq.trans (b := some (.int .i64 (IntKind.i64.wrap ((IntKind.i32.wrap (a * b)) : Int)))) (by kernel_rfl) (f_int (p := (IntKind.i64.wrap ((IntKind.i32.wrap (a * b)) : Int))) (q := ((IntKind.i32.wrap (a * b)) : Int)) (by simp only [IntKind.wrap_i64, IntKind.wrap_i32, IntKind.wrap_u64, IntKind.wrap_u32, Int.tdiv_one, Int.tmod_one] <;> omega))), ⟨(Eq.trans (b := some (.bool ((((IntKind.i32.wrap (a * b)) : Int) != ((IntKind.i32.wrap (a * b)) : Int))))) (by kernel_rfl) (f_bool (q := false) (bne_eq_false_iff_eq.2 rfl))), ⟨(Eq.trans (b := some (.bool (decide ((b : Int) ≤ (0 : Int))))) (by kernel_rfl) (f_bool (q := false) (decide_eq_false (by omega)))), ⟨(Eq.trans (b := some (.bool ((((a / b) : Int) != (1 : Int))))) (by kernel_rfl) (f_bool (q := false) (bne_eq_false_iff_eq.2 (by omega)))), ⟨(Eq.trans (b := some (.bool ((((a % b) : Int) != (0 : Int))))) (by kernel_rfl) (f_bool (q := false) (bne_eq_false_iff_eq.2 (by omega)))), ⟨(Eq.trans (b := some (.bool ((((tr (a = b)) : Int) != (1 : Int))))) (by kernel_rfl) (f_bool (q := false) (by (try simp only [tr, IntKind.wrap_i64, IntKind.wrap_i32]) <;> (repeat' split) <;> simp only [decide_eq_true_eq, decide_eq_false_iff_not, beq_iff_eq, beq_eq_false_iff_ne, bne_iff_ne, bne_eq_false_iff_eq, ne_eq] <;> first | omega | (subst_vars; simp_all; done) | (simp_all; done)))), ⟨(Eq.trans (b := some (.bool ((((tr (a ≠ b)) : Int) != (0 : Int))))) (by kernel_rfl) (f_bool (q := false) (by (try simp only [tr, IntKind.wrap_i64, IntKind.wrap_i32]) <;> (repeat' split) <;> simp only [decide_eq_true_eq, decide_eq_false_iff_not, beq_iff_eq, beq_eq_false_iff_ne, bne_iff_ne, bne_eq_false_iff_eq, ne_eq] <;> first | omega | (subst_vars; simp_all; done) | (simp_all; done)))), ⟨(Eq.trans (b := some (.bool ((((tr (a < b)) : Int) != (0 : Int))))) (by kernel_rfl) (f_bool (q := false) (by (try simp only [tr, IntKind.wrap_i64, IntKind.wrap_i32]) <;> (repeat' split) <;> simp only [decide_eq_true_eq, decide_eq_false_iff_not, beq_iff_eq, beq_eq_false_iff_ne, bne_iff_ne, bne_eq_false_iff_eq, ne_eq] <;> first | omega | (subst_vars; simp_all; done) | (simp_all; done)))), ⟨(Eq.trans (b := some (.bool ((((tr (a ≤ b)) : Int) != (1 : Int))))) (by kernel_rfl) (f_bool (q := false) (by (try simp only [tr, IntKind.wrap_i64, IntKind.wrap_i32]) <;> (repeat' split) <;> simp only [decide_eq_true_eq, decide_eq_false_iff_not, beq_iff_eq, beq_eq_false_iff_ne, bne_iff_ne, bne_eq_false_iff_eq, ne_eq] <;> first | omega | (subst_vars; simp_all; done) | (simp_all; done)))), ⟨(Eq.trans (b := some (.bool ((((tr (a > b)) : Int) != (0 : Int))))) (by kernel_rfl) (f_bool (q := false) (by (try simp only [tr, IntKind.wrap_i64, IntKind.wrap_i32]) <;> (repeat' split) <;> simp only [decide_eq_true_eq, decide_eq_false_iff_not, beq_iff_eq, beq_eq_false_iff_ne, bne_iff_ne, bne_eq_false_iff_eq, ne_eq] <;> first | omega | (subst_vars; simp_all; done) | (simp_all; done)))), ⟨(Eq.trans (b := some (.bool ((((tr (a ≥ b)) : Int) != (1 : Int))))) (by kernel_rfl) (f_bool (q := false) (by (try simp only [tr, IntKind.wrap_i64, IntKind.wrap_i32]) <;> (repeat' split) <;> simp only [decide_eq_true_eq, decide_eq_false_iff_not, beq_iff_eq, beq_eq_false_iff_ne, bne_iff_ne, bne_eq_false_iff_eq, ne_eq] <;> first | omega | (subst_vars; simp_all; done) | (simp_all; done)))), trivial⟩⟩⟩⟩⟩⟩⟩⟩⟩⟩⟩⟩⟩⟩⟩⟩⟩⟩⟩⟩⟩⟩⟩⟩⟩⟩⟩⟩))
    [(4, [], .ret (.bool true)),
    o1,
    o2,
    o60,
    o97,
    o134,
    o446,
    o450,
    o243,
    o282,
    o321,
    o362,
    o401,
    o439]
    ⟨shown_q a b H0, ⟨q1 a b H0, ⟨q2 a b H0, ⟨q60 a b H0, ⟨q97 a b H0, ⟨q134 a b H0, ⟨q446 a b H0 hc0.1, ⟨q450 a b H0 hc0.1, ⟨q243 a b H0, ⟨q282 a b H0, ⟨q321 a b H0, ⟨q362 a b H0, ⟨q401 a b H0, ⟨q439 a b H0, trivial⟩⟩⟩⟩⟩⟩⟩⟩⟩⟩⟩⟩⟩⟩ (by kernel_rfl) (by kernel_rfl) (by kernel_rfl)
def o452 : Ob := (3, [.sym .i32 0, .sym .i32 1], .ret (.bool true))
theorem q452 (a b : Int) (H : Hy a b) (hc : 0 < b ∧ b < a ∧ 0 ≤ a.tmod b) : Ans (i0 a b) (s0 a b) o452 := by
  have H0 := H
  have hc0 := hc
  obtain ⟨h1, h2, h3, h4⟩ := H
  obtain ⟨d1, d2, d3, d4, d5⟩ := divs (a := a) hc.1
  obtain ⟨t1, t2⟩ := tdiv_bd hc.1 h1 h2
  obtain ⟨u1, u2⟩ := div_floor (a := a) hc.1
  have u3 : -2147483648 ≤ a / b := Int.le_ediv_of_mul_le hc.1 (by omega)
  obtain ⟨c0, c1, c2⟩ := hc
  have ea := q0_lt a
  have fa : qn a 0 = (a % 4294967296).toNat := rfl
  have eb := q0_lt b
  have fb : qn b 0 = (b % 4294967296).toNat := rfl
  exact ans (fxL ++ [⟨.convI .i64 (.c (.sym .i32 0)), .sym .i64 50⟩,
    ⟨.convI .i64 (.c (.sym .i32 1)), .sym .i64 53⟩,
    ⟨.mxn true (.c (.int .i64 1)) (.c (.sym .i64 53)), .sym .i64 80⟩,
    ⟨.bin .quo (.c (.sym .i64 50)) (.c (.sym .i64 80)), .sym .i64 81⟩,
    ⟨.bin .rem (.c (.sym .i64 50)) (.c (.sym .i64 80)), .sym .i64 82⟩,
    ⟨.bin .lss (.c (.sym .i64 82)) (.c (.int .i64 0)), .bool false⟩,
    ⟨.bin .eql (.c (.sym .i32 0)) (.c (.sym .i32 1)), .bool false⟩,
    ⟨.bin .neq (.c (.sym .i32 0)) (.c (.sym .i32 1)), .bool true⟩,
    ⟨.bin .lss (.c (.sym .i32 0)) (.c (.sym .i32 1)), .bool false⟩,
    ⟨.bin .leq (.c (.sym .i32 0)) (.c (.sym .i32 1)), .bool false⟩,
    ⟨.bin .gtr (.c (.sym .i32 0)) (.c (.sym .i32 1)), .bool true⟩,
    ⟨.bin .geq (.c (.sym .i32 0)) (.c (.sym .i32 1)), .bool true⟩,
    ⟨.bin .add (.c (.sym .i32 0)) (.c (.sym .i32 1)), .sym .i32 65⟩,
    ⟨.convI .i64 (.c (.sym .i32 65)), .sym .i64 66⟩,
    ⟨.bin .neq (.c (.sym .i64 54)) (.c (.sym .i64 66)), .bool false⟩,
    ⟨.bin .sub (.c (.sym .i32 0)) (.c (.sym .i32 1)), .sym .i32 67⟩,
    ⟨.convI .i64 (.c (.sym .i32 67)), .sym .i64 68⟩,
    ⟨.bin .neq (.c (.sym .i64 55)) (.c (.sym .i64 68)), .bool false⟩,
    ⟨.bin .mul (.c (.sym .i32 0)) (.c (.sym .i32 1)), .sym .i32 69⟩,
    ⟨.convI .i64 (.c (.sym .i32 69)), .sym .i64 70⟩,
    ⟨.bin .neq (.c (.sym .i64 56)) (.c (.sym .i64 70)), .bool false⟩,
    ⟨.bin .leq (.c (.sym .i32 1)) (.c (.int .i32 0)), .bool false⟩,
    ⟨.bin .neq (.c (.sym .i64 63)) (.c (.sym .i64 81)), .bool false⟩,
    ⟨.bin .neq (.c (.sym .i64 64)) (.c (.sym .i64 82)), .bool false⟩,
    ⟨.bin .neq (.c (.sym .i64 57)) (.c (.int .i64 0)), .bool false⟩,
    ⟨.bin .neq (.c (.sym .i64 58)) (.c (.int .i64 1)), .bool false⟩,
    ⟨.bin .neq (.c (.sym .i64 59)) (.c (.int .i64 0)), .bool false⟩,
    ⟨.bin .neq (.c (.sym .i64 60)) (.c (.int .i64 0)), .bool false⟩,
    ⟨.bin .neq (.c (.sym .i64 61)) (.c (.int .i64 1)), .bool false⟩,
    ⟨.bin .neq (.c (.sym .i64 62)) (.c (.int .i64 1)), .bool false⟩])
    (okAll_app (fxL_ok a b) (⟨(Eq.trans (b := some (.int .i64 (IntKind.i64.wrap (a : Int)))) (by kernel_rfl) (f_int (p := (IntKind.i64.wrap (a : Int))) (q := (a : Int)) (by simp only [IntKind.wrap_i64, IntKind.wrap_i32, IntKind.wrap_u64, IntKind.wrap_u32, Int.tdiv_one, Int.tmod_one] <;> omega))), ⟨(Eq.trans (b := some (.int .i64 (IntKind.i64.wrap (b : Int)))) (by kernel_rfl) (f_int (p := (IntKind.i64.wrap (b : Int))) (q := (b : Int)) (by simp only [IntKind.wrap_i64, IntKind.wrap_i32, IntKind.wrap_u64, IntKind.wrap_u32, Int.tdiv_one, Int.tmod_one] <;> omega))), ⟨(Eq.trans (b := some (.int .i64 (if (b : Int) > (1 : Int) then (b : Int) else (1 : Int)))) (by kernel_rfl) (f_int (p := (if (b : Int) > (1 : Int) then (b : Int) else (1 : Int))) (q := (b : Int)) (by split <;> omega))), ⟨(Eq.trans (b := pureB id' (.bin .quo (.c (.int .i64 (a : Int))) (.c (.int .i64 (b : Int))))) (by kernel_rfl) (q_quo (r := ((Int.tdiv a b) : Int)) (by omega) (by simp only [IntKind.wrap_i64, IntKind.wrap_i32, IntKind.wrap_u64, IntKind.wrap_u32, Int.tdiv_one, Int.tmod_one] <;> omega))), ⟨(Eq.trans (b := pureB id' (.bin .rem (.c (.int .i64 (a : Int))) (.c (.int .i64 (b : Int))))) (by kernel_rfl) (q_rem (r := ((Int.tmod a b) : Int)) (by omega) (by omega))), ⟨(Eq.trans (b := some (.bool (decide (((Int.tmod a b) : Int) < (0 : Int))))) (by kernel_rfl) (f_bool (q := false) (decide_eq_false (by omega)))), ⟨(Eq.trans (b := some (.bool (((a : Int) == (b : Int))))) (by kernel_rfl) (f_bool (q := false) (beq_eq_false_iff_ne.2 (by omega)))), ⟨(Eq.trans (b := some (.bool (((a : Int) != (b : Int))))) (by kernel_rfl) (f_bool (q := true) (bne_iff_ne.2 (by omega)))), ⟨(Eq.trans (b := some (.bool (decide ((a : Int) < (b : Int))))) (by kernel_rfl) (f_bool (q := false) (decide_eq_false (by omega)))), ⟨(Eq.trans (b := some (.bool (decide ((a : Int) ≤ (b : Int))))) (by kernel_rfl) (f_bool (q := false) (decide_eq_false (by omega)))), ⟨(Eq.trans (b := some (.bool (decide ((a : Int) > (b : Int))))) (by kernel_rfl) (f_bool (q := true) (decide_eq_true (by omega)))), ⟨(Eq.trans (b := some (.bool (decide ((a : Int) ≥ (b : Int))))) (by kernel_rfl) (f_bool (q := true) (decide_eq_true (by omega)))), ⟨(Eq.trans (b := some (.int .i32 (IntKind.i32.wrap ((a : Int) + (b : Int))))) (by kernel_rfl) (f_int (p := (IntKind.i32.wrap ((a : Int) + (b : Int)))) (q := ((IntKind.i32.wrap (a + b)) : Int)) (rfl))), ⟨(Eq.trans (b := some (.int .i64 (IntKind.i64.wrap ((IntKind.i32.wrap (a + b)) : Int)))) (by kernel_rfl) (f_int (p := (IntKind.i64.wrap ((IntKind.i32.wrap (a + b)) : Int))) (q := ((IntKind.i32.wrap (a + b)) : Int)) (by simp only [IntKind.wrap_i64, IntKind.wrap_i32, IntKind.wrap_u64, IntKind.wrap_u32, Int.tdiv_one, Int.tmod_one] <;> omega))), ⟨(Eq.trans (b := some (.bool ((((IntKind.i32.wrap (a + b)) : Int) != ((IntKind.i32.wrap (a + b)) : Int))))) (by kernel_rfl) (f_bool (q := false) (bne_eq_false_iff_eq.2 rfl))), ⟨(Eq.trans (b := some (.int .i32 (IntKind.i32.wrap ((a : Int) - (b : Int))))) (by kernel_rfl) (f_int (p := (IntKind.i32.wrap ((a : Int) - (b : Int)))) (q := ((IntKind.i32.wrap (a - b)) : Int)) (rfl))), ⟨(Eq.trans (b := some (.int .i64 (IntKind.i64.wrap ((IntKind.i32.wrap (a - b)) : Int)))) (by kernel_rfl) (f_int (p := (IntKind.i64.wrap ((IntKind.i32.wrap (a - b)) : Int))) (q := ((IntKind.i32.wrap (a - b)) : Int)) (by simp only [IntKind.wrap_i64, IntKind.wrap_i32, IntKind.wrap_u64, IntKind.wrap_u32, Int.tdiv_one, Int.tmod_one] <;> omega))), ⟨(Eq.trans (b := some (.bool ((((IntKind.i32.wrap (a - b)) : Int) != ((IntKind.i32.wrap (a - b)) : Int))))) (by kernel_rfl) (f_bool (q := false) (bne_eq_false_iff_eq.2 rfl))), ⟨(Eq.trans (b := some (.int .i32 (IntKind.i32.wrap ((a : Int) * (b : Int))))) (by kernel_rfl) (f_int (p := (IntKind.i32.wrap ((a : Int) * (b : Int)))) (q := ((IntKind.i32.wrap (a * b)) : Int)) (rfl))), ⟨(Eq.trans (b := some (.int .i64 (IntKind.i64.wrap ((IntKind.i32.wrap (a * b)) : Int)))) (by kernel_rfl) (f_int (p := (IntKind.i64.wrap ((IntKind.i32.wrap (a * b)) : Int))) (q := ((IntKind.i32.wrap (a * b)) : Int)) (by simp only [IntKind.wrap_i64, IntKind.wrap_i32, IntKind.wrap_u64, IntKind.wrap_u32, Int.tdiv_one, Int.tmod_one] <;> omega))), ⟨(Eq.trans (b := some (.bool ((((IntKind.i32.wrap (a * b)) : Int) != ((IntKind.i32.wrap (a * b)) : Int))))) (by kernel_rfl) (f_bool (q := false) (bne_eq_false_iff_eq.2 rfl))), ⟨(Eq.trans (b := some (.bool (decide ((b : Int) ≤ (0 : Int))))) (by kernel_rfl) (f_bool (q := false) (decide_eq_false (by omega)))), ⟨(Eq.trans (b := some (.bool ((((a / b) : Int) != ((Int.tdiv a b) : Int))))) (by kernel_rfl) (f_bool (q := false) (bne_eq_false_iff_eq.2 (by omega)))), ⟨(Eq.trans (b := some (.bool ((((a % b) : Int) != ((Int.tmod a b) : Int))))) (by kernel_rfl) (f_bool (q := false) (bne_eq_false_iff_eq.2 (by omega)))), ⟨(Eq.trans (b := some (.bool ((((tr (a = b)) : Int) != (0 : Int))))) (by kernel_rfl) (f_bool (q := false) (by (try simp only [tr, IntKind.wrap_i64, IntKind.wrap_i32]) <;> (repeat' split) <;> simp only [decide_eq_true_eq, decide_eq_false_iff_not, beq_iff_eq, beq_eq_false_iff_ne, bne_iff_ne, bne_eq_false_iff_eq, ne_eq] <;> first | omega | (subst_vars; simp_all; done) | (simp_all; done)))), ⟨(Eq.trans (b := some (.bool ((((tr (a ≠ b)) : Int) != (1 : Int))))) (by kernel_rfl) (f_bool (q := false) (by (try simp only [tr, IntKind.wrap_i64, IntKind.wrap_i32]) <;> (repeat' split) <;> simp only [decide_eq_true_eq, decide_eq_false_iff_not, beq_iff_eq, beq_eq_false_iff_ne, bne_iff_ne, bne_eq_false_iff_eq, ne_eq] <;> first | omega | (subst_vars; simp_all; done) | (simp_all; done)))), ⟨(Eq.trans (b := some (.bool ((((tr (a < b)) : Int) != (0 : Int))))) (by kernel_rfl) (f_bool (q := false) (by (try simp only [tr, IntKind.wrap_i64, IntKind.wrap_i32]) <;> (repeat' split) <;> simp only [decide_eq_true_eq, decide_eq_false_iff_not, beq_iff_eq, beq_eq_false_iff_ne, bne_iff_ne, bne_eq_false_iff_eq, ne_eq] <;> first | omega | (subst_vars; simp_all; done) | (simp_all; done)))), ⟨(Eq.trans (b := some (.bool ((((tr (a ≤ b)) : Int) != (0 : Int))))) (by kernel_rfl) (f_bool (q := false) (by (try simp only [tr, IntKind.wrap_i64, IntKind.wrap_i32]) <;> (repeat' split) <;> simp only [decide_eq_true_eq, decide_eq_false_iff_not, beq_iff_eq, beq_eq_false_iff_ne, bne_iff_ne, bne_eq_false_iff_eq, ne_eq] <;> first | omega | (subst_vars; simp_all; done) | (simp_all; done)))), ⟨(Eq.trans (b := some (.bool ((((tr (a > b)) : Int) != (1 : Int))))) (by kernel_rfl) (f_bool (q := false) (by (try simp only [tr, IntKind.wrap_i64, IntKind.wrap_i32]) <;> (repeat' split) <;> simp only [decide_eq_true_eq, decide_eq_false_iff_not, beq_iff_eq, beq_eq_false_iff_ne, bne_iff_ne, bne_eq_false_iff_eq, ne_eq] <;> first | omega | (subst_vars; simp_all; done) | (simp_all; done)))), ⟨(Eq.trans (b := some (.bool ((((tr (a ≥ b)) : Int) != (1 : Int))))) (by kernel_rfl) (f_bool (q := false) (by (try simp only [tr, IntKind.wrap_i64, IntKind.wrap_i32]) <;> (repeat' split) <;> simp only [decide_eq_true_eq, decide_eq_false_iff_not, beq_iff_eq, beq_eq_false_iff_ne, bne_iff_ne, bne_eq_false_iff_eq, ne_eq] <;> first | omega | (subst_vars; simp_all; done) | (simp_all; done)))), trivial⟩⟩⟩⟩⟩⟩⟩⟩⟩⟩⟩⟩⟩⟩⟩⟩⟩⟩⟩⟩⟩⟩⟩⟩⟩⟩⟩⟩⟩⟩))
    [(4, [], .ret (.bool true)),
    o1,
    o2,
    o60,
    o97,
    o134,
    o446,
    o450,
    o243,
    o282,
    o321,
    o362,
    o401,
    o439]
    ⟨shown_q a b H0, ⟨q1 a b H0, ⟨q2 a b H0, ⟨q60 a b H0, ⟨q97 a b H0, ⟨q134 a b H0, ⟨q446 a b H0 hc0.1, ⟨q450 a b H0 hc0.1, ⟨q243 a b H0, ⟨q282 a b H0, ⟨q321 a b H0, ⟨q362 a b H0, ⟨q401 a b H0, ⟨q439 a b H0, trivial⟩⟩⟩⟩⟩⟩⟩⟩⟩⟩⟩⟩⟩⟩ (by kernel_rfl) (by kernel_rfl) (by kernel_rfl)
def o453 : Ob := (3, [.sym .i32 0, .sym .i32 1], .ret (.bool true))
theorem q453 (a b : Int) (H : Hy a b) (hc : 0 < b ∧ a < b ∧ a.tmod b < 0) : Ans (i0 a b) (s0 a b) o453 := by
  have H0 := H
  have hc0 := hc
  obtain ⟨h1, h2, h3, h4⟩ := H
  obtain ⟨d1, d2, d3, d4, d5⟩ := divs (a := a) hc.1
  obtain ⟨t1, t2⟩ := tdiv_bd hc.1 h1 h2
  obtain ⟨u1, u2⟩ := div_floor (a := a) hc.1
  have u3 : -2147483648 ≤ a / b := Int.le_ediv_of_mul_le hc.1 (by omega)
  obtain ⟨c0, c1, c2⟩ := hc
  have ea := q0_lt a
  have fa : qn a 0 = (a % 4294967296).toNat := rfl
  have eb := q0_lt b
  have fb : qn b 0 = (b % 4294967296).toNat := rfl
  exact ans (fxL ++ [⟨.convI .i64 (.c (.sym .i32 0)), .sym .i64 50⟩,
    ⟨.convI .i64 (.c (.sym .i32 1)), .sym .i64 53⟩,
    ⟨.mxn true (.c (.int .i64 1)) (.c (.sym .i64 53)), .sym .i64 80⟩,
    ⟨.bin .quo (.c (.sym .i64 50)) (.c (.sym .i64 80)), .sym .i64 81⟩,
    ⟨.bin .rem (.c (.sym .i64 50)) (.c (.sym .i64 80)), .sym .i64 82⟩,
    ⟨.bin .lss (.c (.sym .i64 82)) (.c (.int .i64 0)), .bool true⟩,
    ⟨.bin .sub (.c (.sym .i64 81)) (.c (.int .i64 1)), .sym .i64 83⟩,
    ⟨.bin .add (.c (.sym .i64 82)) (.c (.sym .i64 53)), .sym .i64 84⟩,
    ⟨.bin .eql (.c (.sym .i32 0)) (.c (.sym .i32 1)), .bool false⟩,
    ⟨.bin .neq (.c (.sym .i32 0)) (.c (.sym .i32 1)), .bool true⟩,
    ⟨.bin .lss (.c (.sym .i32 0)) (.c (.sym .i32 1)), .bool true⟩,
    ⟨.bin .leq (.c (.sym .i32 0)) (.c (.sym .i32 1)), .bool true⟩,
    ⟨.bin .gtr (.c (.sym .i32 0)) (.c (.sym .i32 1)), .bool false⟩,
    ⟨.bin .geq (.c (.sym .i32 0)) (.c (.sym .i32 1)), .bool false⟩,
    ⟨.bin .add (.c (.sym .i32 0)) (.c (.sym .i32 1)), .sym .i32 65⟩,
    ⟨.convI .i64 (.c (.sym .i32 65)), .sym .i64 66⟩,
    ⟨.bin .neq (.c (.sym .i64 54)) (.c (.sym .i64 66)), .bool false⟩,
    ⟨.bin .sub (.c (.sym .i32 0)) (.c (.sym .i32 1)), .sym .i32 67⟩,
    ⟨.convI .i64 (.c (.sym .i32 67)), .sym .i64 68⟩,
    ⟨.bin .neq (.c (.sym .i64 55)) (.c (.sym .i64 68)), .bool false⟩,
    ⟨.bin .mul (.c (.sym .i32 0)) (.c (.sym .i32 1)), .sym .i32 69⟩,
    ⟨.convI .i64 (.c (.sym .i32 69)), .sym .i64 70⟩,
    ⟨.bin .neq (.c (.sym .i64 56)) (.c (.sym .i64 70)), .bool false⟩,
    ⟨.bin .leq (.c (.sym .i32 1)) (.c (.int .i32 0)), .bool false⟩,
    ⟨.bin .neq (.c (.sym .i64 63)) (.c (.sym .i64 83)), .bool false⟩,
    ⟨.bin .neq (.c (.sym .i64 64)) (.c (.sym .i64 84)), .bool false⟩,
    ⟨.bin .neq (.c (.sym .i64 57)) (.c (.int .i64 0)), .bool false⟩,
    ⟨.bin .neq (.c (.sym .i64 58)) (.c (.int .i64 1)), .bool false⟩,
    ⟨.bin .neq (.c (.sym .i64 59)) (.c (.int .i64 1)), .bool false⟩,
    ⟨.bin .neq (.c (.sym .i64 60)) (.c (.int .i64 1)), .bool false⟩,
    ⟨.bin .neq (.c (.sym .i64 61)) (.c (.int .i64 0)), .bool false⟩,
    ⟨.bin .neq (.c (.sym .i64 62)) (.c (.int .i64 0)), .bool false⟩])
    (okAll_app (fxL_ok a b) (⟨(Eq.trans (b := some (.int .i64 (IntKind.i64.wrap (a : Int)))) (by kernel_rfl) (f_int (p := (IntKind.i64.wrap (a : Int))) (q := (a : Int)) (by simp only [IntKind.wrap_i64, IntKind.wrap_i32, IntKind.wrap_u64, IntKind.wrap_u32, Int.tdiv_one, Int.tmod_one] <;> omega))), ⟨(Eq.trans (b := some (.int .i64 (IntKind.i64.wrap (b : Int)))) (by kernel_rfl) (f_int (p := (IntKind.i64.wrap (b : Int))) (q := (b : Int)) (by simp only [IntKind.wrap_i64, IntKind.wrap_i32, IntKind.wrap_u64, IntKind.wrap_u32, Int.tdiv_one, Int.tmod_one] <;> omega))), ⟨(Eq.trans (b := some (.int .i64 (if (b : Int) > (1 : Int) then (b : Int) else (1 : Int)))) (by kernel_rfl) (f_int (p := (if (b : Int) > (1 : Int) then (b : Int) else (1 : Int))) (q := (b : Int)) (by split <;> omega))), ⟨(Eq.trans (b := pureB id' (.bin .quo (.c (.int .i64 (a : Int))) (.c (.int .i64 (b : Int))))) (by kernel_rfl) (q_quo (r := ((Int.tdiv a b) : Int)) (by omega) (by simp only [IntKind.wrap_i64, IntKind.wrap_i32, IntKind.wrap_u64, IntKind.wrap_u32, Int.tdiv_one, Int.tmod_one] <;> omega))), ⟨(Eq.trans (b := pureB id' (.bin .rem (.c (.int .i64 (a : Int))) (.c (.int .i64 (b : Int))))) (by kernel_rfl) (q_rem (r := ((Int.tmod a b) : Int)) (by omega) (by omega))), ⟨(Eq.trans (b := some (.bool (decide (((Int.tmod a b) : Int) < (0 : Int))))) (by kernel_rfl) (f_bool (q := true) (decide_eq_true (by omega)))), ⟨(Eq.trans (b := some (.int .i64 (IntKind.i64.wrap (((Int.tdiv a b) : Int) - (1 : Int))))) (by kernel_rfl) (f_int (p := (IntKind.i64.wrap (((Int.tdiv a b) : Int) - (1 : Int)))) (q := (((Int.tdiv a b) - 1) : Int)) (by simp only [IntKind.wrap_i64, IntKind.wrap_i32, IntKind.wrap_u64, IntKind.wrap_u32, Int.tdiv_one, Int.tmod_one] <;> omega))), ⟨(Eq.trans (b := some (.int .i64 (IntKind.i64.wrap (((Int.tmod a b) : Int) + (b : Int))))) (by kernel_rfl) (f_int (p := (IntKind.i64.wrap (((Int.tmod a b) : Int) + (b : Int)))) (q := (((Int.tmod a b) + b) : Int)) (by simp only [IntKind.wrap_i64, IntKind.wrap_i32, IntKind.wrap_u64, IntKind.wrap_u32, Int.tdiv_one, Int.tmod_one] <;> omega))), ⟨(Eq.trans (b := some (.bool (((a : Int) == (b : Int))))) (by kernel_rfl) (f_bool (q := false) (beq_eq_false_iff_ne.2 (by omega)))), ⟨(Eq.trans (b := some (.bool (((a : Int) != (b : Int))))) (by kernel_rfl) (f_bool (q := true) (bne_iff_ne.2 (by omega)))), ⟨(Eq.trans (b := some (.bool (decide ((a : Int) < (b : Int))))) (by kernel_rfl) (f_bool (q := true) (decide_eq_true (by omega)))), ⟨(Eq.trans (b := some (.bool (decide ((a : Int) ≤ (b : Int))))) (by kernel_rfl) (f_bool (q := true) (decide_eq_true (by omega)))), ⟨(Eq.trans (b := some (.bool (decide ((a : Int) > (b : Int))))) (by kernel_rfl) (f_bool (q := false) (decide_eq_false (by omega)))), ⟨(Eq.trans (b := some (.bool (decide ((a : Int) ≥ (b : Int))))) (by kernel_rfl) (f_bool (q := false) (decide_eq_false (by omega)))), ⟨(Eq.trans (b := some (.int .i32 (IntKind.i32.wrap ((a : Int) + (b : Int))))) (by kernel_rfl) (f_int (p := (IntKind.i32.wrap ((a : Int) + (b : Int)))) (q := ((IntKind.i32.wrap (a + b)) : Int)) (rfl))), ⟨(Eq.trans (b := some (.int .i64 (IntKind.i64.wrap ((IntKind.i32.wrap (a + b)) : Int)))) (by kernel_rfl) (f_int (p := (IntKind.i64.wrap ((IntKind.i32.wrap (a + b)) : Int))) (q := ((IntKind.i32.wrap (a + b)) : Int)) (by simp only [IntKind.wrap_i64, IntKind.wrap_i32, IntKind.wrap_u64, IntKind.wrap_u32, Int.tdiv_one, Int.tmod_one] <;> omega))), ⟨(Eq.trans (b := some (.bool ((((IntKind.i32.wrap (a + b)) : Int) != ((IntKind.i32.wrap (a + b)) : Int))))) (by kernel_rfl) (f_bool (q := false) (bne_eq_false_iff_eq.2 rfl))), ⟨(Eq.trans (b := some (.int .i32 (IntKind.i32.wrap ((a : Int) - (b : Int))))) (by kernel_rfl) (f_int (p := (IntKind.i32.wrap ((a : Int) - (b : Int)))) (q := ((IntKind.i32.wrap (a - b)) : Int)) (rfl))), ⟨(Eq.trans (b := some (.int .i64 (IntKind.i64.wrap ((IntKind.i32.wrap (a - b)) : Int)))) (by kernel_rfl) (f_int (p := (IntKind.i64.wrap ((IntKind.i32.wrap (a - b)) : Int))) (q := ((IntKind.i32.wrap (a - b)) : Int)) (by simp only [IntKind.wrap_i64, IntKind.wrap_i32, IntKind.wrap_u64, IntKind.wrap_u32, Int.tdiv_one, Int.tmod_one] <;> omega))), ⟨(Eq.trans (b := some (.bool ((((IntKind.i32.wrap (a - b)) : Int) != ((IntKind.i32.wrap (a - b)) : Int))))) (by kernel_rfl) (f_bool (q := false) (bne_eq_false_iff_eq.2 rfl))), ⟨(Eq.trans (b := some (.int .i32 (IntKind.i32.wrap ((a : Int) * (b : Int))))) (by kernel_rfl) (f_int (p := (IntKind.i32.wrap ((a : Int) * (b : Int)))) (q := ((IntKind.i32.wrap (a * b)) : Int)) (rfl))), ⟨(Eq.trans (b := some (.int .i64 (IntKind.i64.wrap ((IntKind.i32.wrap (a * b)) : Int)))) (by kernel_rfl) (f_int (p := (IntKind.i64.wrap ((IntKind.i32.wrap (a * b)) : Int))) (q := ((IntKind.i32.wrap (a * b)) : Int)) (by simp only [IntKind.wrap_i64, IntKind.wrap_i32, IntKind.wrap_u64, IntKind.wrap_u32, Int.tdiv_one, Int.tmod_one] <;> omega))), ⟨(Eq.trans (b := some (.bool ((((IntKind.i32.wrap (a * b)) : Int) != ((IntKind.i32.wrap (a * b)) : Int))))) (by kernel_rfl) (f_bool (q := false) (bne_eq_false_iff_eq.2 rfl))), ⟨(Eq.trans (b := some (.bool (decide ((b : Int) ≤ (0 : Int))))) (by kernel_rfl) (f_bool (q := false) (decide_eq_false (by omega)))), ⟨(Eq.trans (b := some (.bool ((((a / b) : Int) != (((Int.tdiv a b) - 1) : Int))))) (by kernel_rfl) (f_bool (q := false) (bne_eq_false_iff_eq.2 (by omega)))), ⟨(Eq.trans (b := some (.bool ((((a % b) : Int) != (((Int.tmod a b) + b) : Int))))) (by kernel_rfl) (f_bool (q := false) (bne_eq_false_iff_eq.2 (by omega)))), ⟨(Eq.trans (b := some (.bool ((((tr (a = b)) : Int) != (0 : Int))))) (by kernel_rfl) (f_bool (q := false) (by (try simp only [tr, IntKind.wrap_i64, IntKind.wrap_i32]) <;> (repeat' split) <;> simp only [decide_eq_true_eq, decide_eq_false_iff_not, beq_iff_eq, beq_eq_false_iff_ne, bne_iff_ne, bne_eq_false_iff_eq, ne_eq] <;> first | omega | (subst_vars; simp_all; done) | (simp_all; done)))), ⟨(Eq.trans (b := some (.bool ((((tr (a ≠ b)) : Int) != (1 : Int))))) (by kernel_rfl) (f_bool (q := false) (by (try simp only [tr, IntKind.wrap_i64, IntKind.wrap_i32]) <;> (repeat' split) <;> simp only [decide_eq_true_eq, decide_eq_false_iff_not, beq_iff_eq, beq_eq_false_iff_ne, bne_iff_ne, bne_eq_false_iff_eq, ne_eq] <;> first | omega | (subst_vars; simp_all; done) | (simp_all; done)))), ⟨(Eq.trans (b := some (.bool ((((tr (a < b)) : Int) != (1 : Int))))) (by kernel_rfl) (f_bool (q := false) (by (try simp only [tr, IntKind.wrap_i64, IntKind.wrap_i32]) <;> (repeat' split) <;> simp only [decide_eq_true_eq, decide_eq_false_iff_not, beq_iff_eq, beq_eq_false_iff_ne, bne_iff_ne, bne_eq_false_iff_eq, ne_eq] <;> first | omega | (subst_vars; simp_all; done) | (simp_all; done)))), ⟨(Eq.trans (b := some (.bool ((((tr (a ≤ b)) : Int) != (1 : Int))))) (by kernel_rfl) (f_bool (q := false) (by (try simp only [tr, IntKind.wrap_i64, IntKind.wrap_i32]) <;> (repeat' split) <;> simp only [decide_eq_true_eq, decide_eq_false_iff_not, beq_iff_eq, beq_eq_false_iff_ne, bne_iff_ne, bne_eq_false_iff_eq, ne_eq] <;> first | omega | (subst_vars; simp_all; done) | (simp_all; done)))), ⟨(Eq.trans (b := some (.bool ((((tr (a > b)) : Int) != (0 : Int))))) (by kernel_rfl) (f_bool (q := false) (by (try simp only [tr, IntKind.wrap_i64, IntKind.wrap_i32]) <;> (repeat' split) <;> simp only [decide_eq_true_eq, decide_eq_false_iff_not, beq_iff_eq, beq_eq_false_iff_ne, bne_iff_ne, bne_eq_false_iff_eq, ne_eq] <;> first | omega | (subst_vars; simp_all; done) | (simp_all; done)))), ⟨(Eq.trans (b := some (.bool ((((tr (a ≥ b)) : Int) != (0 : Int))))) (by kernel_rfl) (f_bool (q := false) (by (try simp only [tr, IntKind.wrap_i64, IntKind.wrap_i32]) <;> (repeat' split) <;> simp only [decide_eq_true_eq, decide_eq_false_iff_not, beq_iff_eq, beq_eq_false_iff_ne, bne_iff_ne, bne_eq_false_iff_eq, ne_eq] <;> first | omega | (subst_vars; simp_all; done) | (simp_all; done)))), trivial⟩⟩⟩⟩⟩⟩⟩⟩⟩⟩⟩⟩⟩⟩⟩⟩⟩⟩⟩⟩⟩⟩⟩⟩⟩⟩⟩⟩⟩⟩⟩⟩))
    [(4, [], .ret (.bool true)),
    o1,
    o2,
    o60,
    o97,
    o134,
    o446,
    o450,
    o243,
    o282,
    o321,
    o362,
    o401,
    o439]
    ⟨shown_q a b H0, ⟨q1 a b H0, ⟨q2 a b H0, ⟨q60 a b H0, ⟨q97 a b H0, ⟨q134 a b H0, ⟨q446 a b H0 hc0.1, ⟨q450 a b H0 hc0.1, ⟨q243 a b H0, ⟨q282 a b H0, ⟨q321 a b H0, ⟨q362 a b H0, ⟨q401 a b H0, ⟨q439 a b H0, trivial⟩⟩⟩⟩⟩⟩⟩⟩⟩⟩⟩⟩⟩⟩ (by kernel_rfl) (by kernel_rfl) (by kernel_rfl)
def o454 : Ob := (3, [.sym .i32 0, .sym .i32 1], .ret (.bool true))
theorem q454 (a b : Int) (H : Hy a b) (hc : 0 < b ∧ a < b ∧ 0 ≤ a.tmod b) : Ans (i0 a b) (s0 a b) o454 := by
  have H0 := H
  have hc0 := hc
  obtain ⟨h1, h2, h3, h4⟩ := H
  obtain ⟨d1, d2, d3, d4, d5⟩ := divs (a := a) hc.1
  obtain ⟨t1, t2⟩ := tdiv_bd hc.1 h1 h2
  obtain ⟨u1, u2⟩ := div_floor (a := a) hc.1
  have u3 : -2147483648 ≤ a / b := Int.le_ediv_of_mul_le hc.1 (by omega)
  obtain ⟨c0, c1, c2⟩ := hc
  have ea := q0_lt a
  have fa : qn a 0 = (a % 4294967296).toNat := rfl
  have eb := q0_lt b
  have fb : qn b 0 = (b % 4294967296).toNat := rfl
  exact ans (fxL ++ [⟨.convI .i64 (.c (.sym .i32 0)), .sym .i64 50⟩,
    ⟨.convI .i64 (.c (.sym .i32 1)), .sym .i64 53⟩,
    ⟨.mxn true (.c (.int .i64 1)) (.c (.sym .i64 53)), .sym .i64 80⟩,
    ⟨.bin .quo (.c (.sym .i64 50)) (.c (.sym .i64 80)), .sym .i64 81⟩,
    ⟨.bin .rem (.c (.sym .i64 50)) (.c (.sym .i64 80)), .sym .i64 82⟩,
    ⟨.bin .lss (.c (.sym .i64 82)) (.c (.int .i64 0)), .bool false⟩,
    ⟨.bin .eql (.c (.sym .i32 0)) (.c (.sym .i32 1)), .bool false⟩,
    ⟨.bin .neq (.c (.sym .i32 0)) (.c (.sym .i32 1)), .bool true⟩,
    ⟨.bin .lss (.c (.sym .i32 0)) (.c (.sym .i32 1)), .bool true⟩,
    ⟨.bin .leq (.c (.sym .i32 0)) (.c (.sym .i32 1)), .bool true⟩,
    ⟨.bin .gtr (.c (.sym .i32 0)) (.c (.sym .i32 1)), .bool false⟩,
    ⟨.bin .geq (.c (.sym .i32 0)) (.c (.sym .i32 1)), .bool false⟩,
    ⟨.bin .add (.c (.sym .i32 0)) (.c (.sym .i32 1)), .sym .i32 65⟩,
    ⟨.convI .i64 (.c (.sym .i32 65)), .sym .i64 66⟩,
    ⟨.bin .neq (.c (.sym .i64 54)) (.c (.sym .i64 66)), .bool false⟩,
    ⟨.bin .sub (.c (.sym .i32 0)) (.c (.sym .i32 1)), .sym .i32 67⟩,
    ⟨.convI .i64 (.c (.sym .i32 67)), .sym .i64 68⟩,
    ⟨.bin .neq (.c (.sym .i64 55)) (.c (.sym .i64 68)), .bool false⟩,
    ⟨.bin .mul (.c (.sym .i32 0)) (.c (.sym .i32 1)), .sym .i32 69⟩,
    ⟨.convI .i64 (.c (.sym .i32 69)), .sym .i64 70⟩,
    ⟨.bin .neq (.c (.sym .i64 56)) (.c (.sym .i64 70)), .bool false⟩,
    ⟨.bin .leq (.c (.sym .i32 1)) (.c (.int .i32 0)), .bool false⟩,
    ⟨.bin .neq (.c (.sym .i64 63)) (.c (.sym .i64 81)), .bool false⟩,
    ⟨.bin .neq (.c (.sym .i64 64)) (.c (.sym .i64 82)), .bool false⟩,
    ⟨.bin .neq (.c (.sym .i64 57)) (.c (.int .i64 0)), .bool false⟩,
    ⟨.bin .neq (.c (.sym .i64 58)) (.c (.int .i64 1)), .bool false⟩,
    ⟨.bin .neq (.c (.sym .i64 59)) (.c (.int .i64 1)), .bool false⟩,
    ⟨.bin .neq (.c (.sym .i64 60)) (.c (.int .i64 1)), .bool false⟩,
    ⟨.bin .neq (.c (.sym .i64 61)) (.c (.int .i64 0)), .bool false⟩,
    ⟨.bin .neq (.c (.sym .i64 62)) (.c (.int .i64 0)), .bool false⟩])
    (okAll_app (fxL_ok a b) (⟨(Eq.trans (b := some (.int .i64 (IntKind.i64.wrap (a : Int)))) (by kernel_rfl) (f_int (p := (IntKind.i64.wrap (a : Int))) (q := (a : Int)) (by simp only [IntKind.wrap_i64, IntKind.wrap_i32, IntKind.wrap_u64, IntKind.wrap_u32, Int.tdiv_one, Int.tmod_one] <;> omega))), ⟨(Eq.trans (b := some (.int .i64 (IntKind.i64.wrap (b : Int)))) (by kernel_rfl) (f_int (p := (IntKind.i64.wrap (b : Int))) (q := (b : Int)) (by simp only [IntKind.wrap_i64, IntKind.wrap_i32, IntKind.wrap_u64, IntKind.wrap_u32, Int.tdiv_one, Int.tmod_one] <;> omega))), ⟨(Eq.trans (b := some (.int .i64 (if (b : Int) > (1 : Int) then (b : Int) else (1 : Int)))) (by kernel_rfl) (f_int (p := (if (b : Int) > (1 : Int) then (b : Int) else (1 : Int))) (q := (b : Int)) (by split <;> omega))), ⟨(Eq.trans (b := pureB id' (.bin .quo (.c (.int .i64 (a : Int))) (.c (.int .i64 (b : Int))))) (by kernel_rfl) (q_quo (r := ((Int.tdiv a b) : Int)) (by omega) (by simp only [IntKind.wrap_i64, IntKind.wrap_i32, IntKind.wrap_u64, IntKind.wrap_u32, Int.tdiv_one, Int.tmod_one] <;> omega))), ⟨(Eq.trans (b := pureB id' (.bin .rem (.c (.int .i64 (a : Int))) (.c (.int .i64 (b : Int))))) (by kernel_rfl) (q_rem (r := ((Int.tmod a b) : Int)) (by omega) (by omega))), ⟨(Eq.trans (b := some (.bool (decide (((Int.tmod a b) : Int) < (0 : Int))))) (by kernel_rfl) (f_bool (q := false) (decide_eq_false (by omega)))), ⟨(Eq.trans (b := some (.bool (((a : Int) == (b : Int))))) (by kernel_rfl) (f_bool (q := false) (beq_eq_false_iff_ne.2 (by omega)))), ⟨(Eq.trans (b := some (.bool (((a : Int) != (b : Int))))) (by kernel_rfl) (f_bool (q := true) (bne_iff_ne.2 (by omega)))), ⟨(Eq.trans (b := some (.bool (decide ((a : Int) < (b : Int))))) (by kernel_rfl) (f_bool (q := true) (decide_eq_true (by omega)))), ⟨(Eq.trans (b := some (.bool (decide ((a : Int) ≤ (b : Int))))) (by kernel_rfl) (f_bool (q := true) (decide_eq_true (by omega)))), ⟨(Eq.trans (b := some (.bool (decide ((a : Int) > (b : Int))))) (by kernel_rfl) (f_bool (q := false) (decide_eq_false (by omega)))), ⟨(Eq.trans (b := some (.bool (decide ((a : Int) ≥ (b : Int))))) (by kernel_rfl) (f_bool (q := false) (decide_eq_false (by omega)))), ⟨(Eq.trans (b := some (.int .i32 (IntKind.i32.wrap ((a : Int) + (b : Int))))) (by kernel_rfl) (f_int (p := (IntKind.i32.wrap ((a : Int) + (b : Int)))) (q := ((IntKind.i32.wrap (a + b)) : Int)) (rfl))), ⟨(Eq.trans (b := some (.int .i64 (IntKind.i64.wrap ((IntKind.i32.wrap (a + b)) : Int)))) (by kernel_rfl) (f_int (p := (IntKind.i64.wrap ((IntKind.i32.wrap (a + b)) : Int))) (q := ((IntKind.i32.wrap (a + b)) : Int)) (by simp only [IntKind.wrap_i64, IntKind.wrap_i32, IntKind.wrap_u64, IntKind.wrap_u32, Int.tdiv_one, Int.tmod_one] <;> omega))), ⟨(Eq.trans (b := some (.bool ((((IntKind.i32.wrap (a + b)) : Int) != ((IntKind.i32.wrap (a + b)) : Int))))) (by kernel_rfl) (f_bool (q := false) (bne_eq_false_iff_eq.2 rfl))), ⟨(Eq.trans (b := some (.int .i32 (IntKind.i32.wrap ((a : Int) - (b : Int))))) (by kernel_rfl) (f_int (p := (IntKind.i32.wrap ((a : Int) - (b : Int)))) (q := ((IntKind.i32.wrap (a - b)) : Int)) (rfl))), ⟨(Eq.trans (b := some (.int .i64 (IntKind.i64.wrap ((IntKind.i32.wrap (a - b)) : Int)))) (by kernel_rfl) (f_int (p := (IntKind.i64.wrap ((IntKind.i32.wrap (a - b)) : Int))) (q := ((IntKind.i32.wrap (a - b)) : Int)) (by simp only [IntKind.wrap_i64, IntKind.wrap_i32, IntKind.wrap_u64, IntKind.wrap_u32, Int.tdiv_one, Int.tmod_one] <;> omega))), ⟨(Eq.trans (b := some (.bool ((((IntKind.i32.wrap (a - b)) : Int) != ((IntKind.i32.wrap (a - b)) : Int))))) (by kernel_rfl) (f_bool (q := false) (bne_eq_false_iff_eq.2 rfl))), ⟨(Eq.trans (b := some (.int .i32 (IntKind.i32.wrap ((a : Int) * (b : Int))))) (by kernel_rfl) (f_int (p := (IntKind.i32.wrap ((a : Int) * (b : Int)))) (q := ((IntKind.i32.wrap (a * b)) : Int)) (rfl))), ⟨(Eq.trans (b := some (.int .i64 (IntKind.i64.wrap ((IntKind.i32.wrap (a * b)) : Int)))) (by kernel_rfl) (f_int (p := (IntKind.i64.wrap ((IntKind.i32.wrap (a * b)) : Int))) (q := ((IntKind.i32.wrap (a * b)) : Int)) (by simp only [IntKind.wrap_i64, IntKind.wrap_i32, IntKind.wrap_u64, IntKind.wrap_u32, Int.tdiv_one, Int.tmod_one] <;> omega))), ⟨(Eq.trans (b := some (.bool ((((IntKind.i32.wrap (a * b)) : Int) != ((IntKind.i32.wrap (a * b)) : Int))))) (by kernel_rfl) (f_bool (q := false) (bne_eq_false_iff_eq.2 rfl))), ⟨(Eq.trans (b := some (.bool (decide ((b : Int) ≤ (0 : Int))))) (by kernel_rfl) (f_bool (q := false) (decide_eq_false (by omega)))), ⟨(Eq.trans (b := some (.bool ((((a / b) : Int) != ((Int.tdiv a b) : Int))))) (by kernel_rfl) (f_bool (q := false) (bne_eq_false_iff_eq.2 (by omega)))), ⟨(Eq.trans (b := some (.bool ((((a % b) : Int) != ((Int.tmod a b) : Int))))) (by kernel_rfl) (f_bool (q := false) (bne_eq_false_iff_eq.2 (by omega)))), ⟨(Eq.trans (b := some (.bool ((((tr (a = b)) : Int) != (0 : Int))))) (by kernel_rfl) (f_bool (q := false) (by (try simp only [tr, IntKind.wrap_i64, IntKind.wrap_i32]) <;> (repeat' split) <;> simp only [decide_eq_true_eq, decide_eq_false_iff_not, beq_iff_eq, beq_eq_false_iff_ne, bne_iff_ne, bne_eq_false_iff_eq, ne_eq] <;> first | omega | (subst_vars; simp_all; done) | (simp_all; done)))), ⟨(Eq.trans (b := some (.bool ((((tr (a ≠ b)) : Int) != (1 : Int))))) (by kernel_rfl) (f_bool (q := false) (by (try simp only [tr, IntKind.wrap_i64, IntKind.wrap_i32]) <;> (repeat' split) <;> simp only [decide_eq_true_eq, decide_eq_false_iff_not, beq_iff_eq, beq_eq_false_iff_ne, bne_iff_ne, bne_eq_false_iff_eq, ne_eq] <;> first | omega | (subst_vars; simp_all; done) | (simp_all; done)))), ⟨(Eq.trans (b := some (.bool ((((tr (a < b)) : Int) != (1 : Int))))) (by kernel_rfl) (f_bool (q := false) (by (try simp only [tr, IntKind.wrap_i64, IntKind.wrap_i32]) <;> (repeat' split) <;> simp only [decide_eq_true_eq, decide_eq_false_iff_not, beq_iff_eq, beq_eq_false_iff_ne, bne_iff_ne, bne_eq_false_iff_eq, ne_eq] <;> first | omega | (subst_vars; simp_all; done) | (simp_all; done)))), ⟨(Eq.trans (b := some (.bool ((((tr (a ≤ b)) : Int) != (1 : Int))))) (by kernel_rfl) (f_bool (q := false) (by (try simp only [tr, IntKind.wrap_i64, IntKind.wrap_i32]) <;> (repeat' split) <;> simp only [decide_eq_true_eq, decide_eq_false_iff_not, beq_iff_eq, beq_eq_false_iff_ne, bne_iff_ne, bne_eq_false_iff_eq, ne_eq] <;> first | omega | (subst_vars; simp_all; done) | (simp_all; done)))), ⟨(Eq.trans (b := some (.bool ((((tr (a > b)) : Int) != (0 : Int))))) (by kernel_rfl) (f_bool (q := false) (by (try simp only [tr, IntKind.wrap_i64, IntKind.wrap_i32]) <;> (repeat' split) <;> simp only [decide_eq_true_eq, decide_eq_false_iff_not, beq_iff_eq, beq_eq_false_iff_ne, bne_iff_ne, bne_eq_false_iff_eq, ne_eq] <;> first | omega | (subst_vars; simp_all; done) | (simp_all; done)))), ⟨(Eq.trans (b := some (.bool ((((tr (a ≥ b)) : Int) != (0 : Int))))) (by kernel_rfl) (f_bool (q := false) (by (try simp only [tr, IntKind.wrap_i64, IntKind.wrap_i32]) <;> (repeat' split) <;> simp only [decide_eq_true_eq, decide_eq_false_iff_not, beq_iff_eq, beq_eq_false_iff_ne, bne_iff_ne, bne_eq_false_iff_eq, ne_eq] <;> first | omega | (subst_vars; simp_all; done) | (simp_all; done)))), trivial⟩⟩⟩⟩⟩⟩⟩⟩⟩⟩⟩⟩⟩⟩⟩⟩⟩⟩⟩⟩⟩⟩⟩⟩⟩⟩⟩⟩⟩⟩))
    [(4, [], .ret (.bool true)),
    o1,
    o2,
    o60,
    o97,
    o134,
    o446,
    o450,
    o243,
    o282,
    o321,
    o362,
    o401,
    o439]
    ⟨shown_q a b H0, ⟨q1 a b H0, ⟨q2 a b H0, ⟨q60 a b H0, ⟨q97 a b H0, ⟨q134 a b H0, ⟨q446 a b H0 hc0.1, ⟨q450 a b H0 hc0.1, ⟨q243 a b H0, ⟨q282 a b H0, ⟨q321 a b H0, ⟨q362 a b H0, ⟨q401 a b H0, ⟨q439 a b H0, trivial⟩⟩⟩⟩⟩⟩⟩⟩⟩⟩⟩⟩⟩⟩ (by kernel_rfl) (by kernel_rfl) (by kernel_rfl)
end Go.Proofs.Tryz.Vc
