/- Answers of calls. -/
import Derived.Test.YtokbomdlodainaaGreatDoorVcQ3
import Derived.Test.YtokbomdlodainaaGreatDoorVcK
set_option linter.all false
namespace Go.Proofs.Tryz.Vc
open Go Go.Proofs Go.Ve
set_option maxRecDepth 100000
set_option maxHeartbeats 4000000
def o355 : Ob := (88, [.agg [.int .i64 24, .str [], .sym .i64 53, .bool false, .nils, .int .i64 34], .bool false], .ret (.bool true))
theorem q355 (a b : Int) (H : Hy a b) (hc : b = 0) : Ans (i0 a b) (s0 a b) o355 := by
  have H0 := H
  have hc0 := hc
  obtain ⟨h1, h2, h3, h4⟩ := H
  have ea := q0_lt a
  have fa : qn a 0 = (a % 4294967296).toNat := rfl
  have eb := q0_lt b
  have fb : qn b 0 = (b % 4294967296).toNat := rfl
  exact ans [⟨.bin .eql (.c (.sym .i64 53)) (.c (.int .i64 0)), .bool true⟩,
    ⟨.convI .i32 (.c (.sym .i64 53)), .int .i32 0⟩]
    (⟨(Eq.trans (b := some (.bool (((b : Int) == (0 : Int))))) (by kernel_rfl) (f_bool (q := true) (beq_iff_eq.2 (by omega)))), ⟨(Eq.trans (b := some (.int .i32 (IntKind.i32.wrap (b : Int)))) (by kernel_rfl) (f_int (p := (IntKind.i32.wrap (b : Int))) (q := (0 : Int)) (by simp only [IntKind.wrap_i64, IntKind.wrap_i32, IntKind.wrap_u64, IntKind.wrap_u32, Int.tdiv_one, Int.tmod_one] <;> omega))), trivial⟩⟩)
    []
    trivial (by kernel_rfl) (by kernel_rfl) (by kernel_rfl)
def o356 : Ob := (88, [.agg [.int .i64 24, .str [], .sym .i64 53, .bool false, .nils, .int .i64 34], .bool false], .ret (.bool true))
theorem q356 (a b : Int) (H : Hy a b) (hc : b ≠ 0) : Ans (i0 a b) (s0 a b) o356 := by
  have H0 := H
  have hc0 := hc
  obtain ⟨h1, h2, h3, h4⟩ := H
  have ea := q0_lt a
  have fa : qn a 0 = (a % 4294967296).toNat := rfl
  have eb := q0_lt b
  have fb : qn b 0 = (b % 4294967296).toNat := rfl
  exact ans [⟨.bin .eql (.c (.sym .i64 53)) (.c (.int .i64 0)), .bool false⟩,
    ⟨.convI .i32 (.c (.sym .i64 53)), .sym .i32 1⟩,
    ⟨.convI .i64 (.c (.sym .i32 1)), .sym .i64 53⟩,
    ⟨.bin .eql (.c (.sym .i64 53)) (.c (.sym .i64 53)), .bool true⟩]
    (⟨(Eq.trans (b := some (.bool (((b : Int) == (0 : Int))))) (by kernel_rfl) (f_bool (q := false) (beq_eq_false_iff_ne.2 (by omega)))), ⟨(Eq.trans (b := some (.int .i32 (IntKind.i32.wrap (b : Int)))) (by kernel_rfl) (f_int (p := (IntKind.i32.wrap (b : Int))) (q := (b : Int)) (by simp only [IntKind.wrap_i64, IntKind.wrap_i32, IntKind.wrap_u64, IntKind.wrap_u32, Int.tdiv_one, Int.tmod_one] <;> omega))), ⟨(Eq.trans (b := some (.int .i64 (IntKind.i64.wrap (b : Int)))) (by kernel_rfl) (f_int (p := (IntKind.i64.wrap (b : Int))) (q := (b : Int)) (by simp only [IntKind.wrap_i64, IntKind.wrap_i32, IntKind.wrap_u64, IntKind.wrap_u32, Int.tdiv_one, Int.tmod_one] <;> omega))), ⟨(Eq.trans (b := some (.bool (((b : Int) == (b : Int))))) (by kernel_rfl) (f_bool (q := true) (beq_iff_eq.2 (by omega)))), trivial⟩⟩⟩⟩)
    []
    trivial (by kernel_rfl) (by kernel_rfl) (by kernel_rfl)
def o357 : Ob := (88, [.agg [.int .i64 24, .str [], .sym .i64 53, .bool false, .nils, .int .i64 34], .bool false], .ret (.bool true))
theorem q357 (a b : Int) (H : Hy a b) : Ans (i0 a b) (s0 a b) o357 := by
  by_cases h : b = 0
  · exact q355 a b H h
  · exact q356 a b H h
def o358 : Ob := (170, [.int .i64 27, .sym .i64 50, .sym .i64 53], .ret (.int .i64 1))
theorem q358 (a b : Int) (H : Hy a b) (hc : a < b) : Ans (i0 a b) (s0 a b) o358 := by
  have H0 := H
  have hc0 := hc
  obtain ⟨h1, h2, h3, h4⟩ := H
  have ea := q0_lt a
  have fa : qn a 0 = (a % 4294967296).toNat := rfl
  have eb := q0_lt b
  have fb : qn b 0 = (b % 4294967296).toNat := rfl
  exact ans [⟨.convI .i32 (.c (.sym .i64 50)), .sym .i32 0⟩,
    ⟨.convI .i32 (.c (.sym .i64 53)), .sym .i32 1⟩,
    ⟨.bin .leq (.c (.sym .i64 50)) (.c (.sym .i64 53)), .bool true⟩]
    (⟨(Eq.trans (b := some (.int .i32 (IntKind.i32.wrap (a : Int)))) (by kernel_rfl) (f_int (p := (IntKind.i32.wrap (a : Int))) (q := (a : Int)) (by simp only [IntKind.wrap_i64, IntKind.wrap_i32, IntKind.wrap_u64, IntKind.wrap_u32, Int.tdiv_one, Int.tmod_one] <;> omega))), ⟨(Eq.trans (b := some (.int .i32 (IntKind.i32.wrap (b : Int)))) (by kernel_rfl) (f_int (p := (IntKind.i32.wrap (b : Int))) (q := (b : Int)) (by simp only [IntKind.wrap_i64, IntKind.wrap_i32, IntKind.wrap_u64, IntKind.wrap_u32, Int.tdiv_one, Int.tmod_one] <;> omega))), ⟨(Eq.trans (b := some (.bool (decide ((a : Int) ≤ (b : Int))))) (by kernel_rfl) (f_bool (q := true) (decide_eq_true (by omega)))), trivial⟩⟩⟩)
    []
    trivial (by kernel_rfl) (by kernel_rfl) (by kernel_rfl)
def o359 : Ob := (170, [.int .i64 27, .sym .i64 50, .sym .i64 53], .ret (.int .i64 1))
theorem q359 (a b : Int) (H : Hy a b) (hc : a = b) : Ans (i0 a b) (s0 a b) o359 := by
  have H0 := H
  have hc0 := hc
  obtain ⟨h1, h2, h3, h4⟩ := H
  have ea := q0_lt a
  have fa : qn a 0 = (a % 4294967296).toNat := rfl
  have eb := q0_lt b
  have fb : qn b 0 = (b % 4294967296).toNat := rfl
  exact ans [⟨.convI .i32 (.c (.sym .i64 50)), .sym .i32 0⟩,
    ⟨.convI .i32 (.c (.sym .i64 53)), .sym .i32 1⟩,
    ⟨.bin .leq (.c (.sym .i64 50)) (.c (.sym .i64 53)), .bool true⟩]
    (⟨(Eq.trans (b := some (.int .i32 (IntKind.i32.wrap (a : Int)))) (by kernel_rfl) (f_int (p := (IntKind.i32.wrap (a : Int))) (q := (a : Int)) (by simp only [IntKind.wrap_i64, IntKind.wrap_i32, IntKind.wrap_u64, IntKind.wrap_u32, Int.tdiv_one, Int.tmod_one] <;> omega))), ⟨(Eq.trans (b := some (.int .i32 (IntKind.i32.wrap (b : Int)))) (by kernel_rfl) (f_int (p := (IntKind.i32.wrap (b : Int))) (q := (b : Int)) (by simp only [IntKind.wrap_i64, IntKind.wrap_i32, IntKind.wrap_u64, IntKind.wrap_u32, Int.tdiv_one, Int.tmod_one] <;> omega))), ⟨(Eq.trans (b := some (.bool (decide ((a : Int) ≤ (b : Int))))) (by kernel_rfl) (f_bool (q := true) (decide_eq_true (by omega)))), trivial⟩⟩⟩)
    []
    trivial (by kernel_rfl) (by kernel_rfl) (by kernel_rfl)
def o360 : Ob := (170, [.int .i64 27, .sym .i64 50, .sym .i64 53], .ret (.int .i64 0))
theorem q360 (a b : Int) (H : Hy a b) (hc : b < a) : Ans (i0 a b) (s0 a b) o360 := by
  have H0 := H
  have hc0 := hc
  obtain ⟨h1, h2, h3, h4⟩ := H
  have ea := q0_lt a
  have fa : qn a 0 = (a % 4294967296).toNat := rfl
  have eb := q0_lt b
  have fb : qn b 0 = (b % 4294967296).toNat := rfl
  exact ans [⟨.convI .i32 (.c (.sym .i64 50)), .sym .i32 0⟩,
    ⟨.convI .i32 (.c (.sym .i64 53)), .sym .i32 1⟩,
    ⟨.bin .leq (.c (.sym .i64 50)) (.c (.sym .i64 53)), .bool false⟩]
    (⟨(Eq.trans (b := some (.int .i32 (IntKind.i32.wrap (a : Int)))) (by kernel_rfl) (f_int (p := (IntKind.i32.wrap (a : Int))) (q := (a : Int)) (by simp only [IntKind.wrap_i64, IntKind.wrap_i32, IntKind.wrap_u64, IntKind.wrap_u32, Int.tdiv_one, Int.tmod_one] <;> omega))), ⟨(Eq.trans (b := some (.int .i32 (IntKind.i32.wrap (b : Int)))) (by kernel_rfl) (f_int (p := (IntKind.i32.wrap (b : Int))) (q := (b : Int)) (by simp only [IntKind.wrap_i64, IntKind.wrap_i32, IntKind.wrap_u64, IntKind.wrap_u32, Int.tdiv_one, Int.tmod_one] <;> omega))), ⟨(Eq.trans (b := some (.bool (decide ((a : Int) ≤ (b : Int))))) (by kernel_rfl) (f_bool (q := false) (decide_eq_false (by omega)))), trivial⟩⟩⟩)
    []
    trivial (by kernel_rfl) (by kernel_rfl) (by kernel_rfl)
def o361 : Ob := (170, [.int .i64 27, .sym .i64 50, .sym .i64 53], .ret (.sym .i64 60))
theorem q361 (a b : Int) (H : Hy a b) : Ans (i0 a b) (s0 a b) o361 := by
  show Ans (i0 a b) (s0 a b) (170, [.int .i64 27, .sym .i64 50, .sym .i64 53], .ret (.sym .i64 60))
  rcases Int.lt_trichotomy a b with h | h | h
  · exact (q358 a b H h).den (congrArg (Vl.int .i64) ((by (first | rfl | omega | (simp only [tr] <;> split <;> omega) | (simp only [tr] <;> omega)) : (1 : Int) = ((tr (a ≤ b)) : Int))))
  · exact (q359 a b H h).den (congrArg (Vl.int .i64) ((by (first | rfl | omega | (simp only [tr] <;> split <;> omega) | (simp only [tr] <;> omega)) : (1 : Int) = ((tr (a ≤ b)) : Int))))
  · exact (q360 a b H h).den (congrArg (Vl.int .i64) ((by (first | rfl | omega | (simp only [tr] <;> split <;> omega) | (simp only [tr] <;> omega)) : (0 : Int) = ((tr (a ≤ b)) : Int))))
def o362 : Ob := (5, [.symS 42, .nils], .ret (.tup [.agg [.str [77], .bool false, .nils, .nils, .sl [] [.agg [.int .i64 0, .int .i64 0, .int .i64 0, .int .i64 0, .nils, .int .i64 0, .int .i64 0], .agg [.int .i64 1, .int .i64 0, .int .i64 0, .int .i64 0, .nils, .int .i64 4, .int .i64 0], .agg [.int .i64 2, .int .i64 0, .int .i64 0, .int .i64 0, .nils, .int .i64 1, .int .i64 0], .agg [.int .i64 3, .int .i64 0, .int .i64 0, .int .i64 0, .nils, .int .i64 1, .int .i64 0], .agg [.int .i64 4, .int .i64 0, .int .i64 0, .int .i64 0, .nils, .int .i64 1, .int .i64 0], .agg [.int .i64 5, .int .i64 0, .int .i64 0, .int .i64 0, .nils, .int .i64 4, .int .i64 0], .agg [.int .i64 6, .int .i64 0, .int .i64 0, .int .i64 0, .nils, .int .i64 4, .int .i64 0], .agg [.int .i64 7, .int .i64 0, .int .i64 0, .int .i64 0, .nils, .int .i64 0, .int .i64 0]], .nils, .sl [] [.agg [.str [99], .int .i64 2, .sym .i64 60, .str [], .bool false]], .nils, .nils, .nils], .int .i64 0, .int .i64 0]))
theorem q362 (a b : Int) (H : Hy a b) : Ans (i0 a b) (s0 a b) o362 := by
  have H0 := H
  exact ans []
    (trivial)
    [o354,
    o54,
    o357,
    o361]
    ⟨q354 a b H0, ⟨q54 a b H0, ⟨q357 a b H0, ⟨q361 a b H0, trivial⟩⟩⟩⟩ (by kernel_rfl) (by kernel_rfl) (by kernel_rfl)
def o363 : Ob := (69, [.symS 43, .str [32, 9, 10, 13]], .ret (.symS 43))
theorem q363 (a b : Int) (H : Hy a b) : Ans (i0 a b) (s0 a b) o363 := by
  have H0 := H
  exact ans [⟨.bin .eql (.c (.symS 43)) (.c (.str [])), .bool false⟩,
    ⟨.len true (.c (.symS 43)), .int .i64 51⟩,
    ⟨.idxStr (.c (.symS 43)) (.c (.int .i64 0)), .int .u8 77⟩]
    (⟨by kernel_rfl, ⟨by kernel_rfl, ⟨by kernel_rfl, trivial⟩⟩⟩)
    []
    trivial (by kernel_rfl) (by kernel_rfl) (by kernel_rfl)
def o364 : Ob := (70, [.symS 43, .str [40, 42]], .ret (.bool false))
theorem q364 (a b : Int) (H : Hy a b) : Ans (i0 a b) (s0 a b) o364 := by
  have H0 := H
  exact ans [⟨.len true (.c (.symS 43)), .int .i64 51⟩,
    ⟨.slcStr (.c (.symS 43)) none (some (.c (.int .i64 2))), .str [77, 79]⟩]
    (⟨by kernel_rfl, ⟨by kernel_rfl, trivial⟩⟩)
    []
    trivial (by kernel_rfl) (by kernel_rfl) (by kernel_rfl)
def o365 : Ob := (129, [.symS 43], .ret (.str [77, 79, 68, 85, 76, 69]))
theorem q365 (a b : Int) (H : Hy a b) : Ans (i0 a b) (s0 a b) o365 := by
  show Ans (i0 a b) (s0 a b) (129, [.symS 43], .ret (.str [77, 79, 68, 85, 76, 69]))
  letI := bare (i0 a b) (s0 a b)
  exact word_ob [77, 79, 68, 85, 76, 69] [32, 77, 59, 32, 67, 79, 78, 83, 84, 32, 99, 32, 61, 32, 48, (dg a 7), (dg a 6), (dg a 5), (dg a 4), (dg a 3), (dg a 2), (dg a 1), (dg a 0), 72, 32, 62, 32, 48, (dg b 7), (dg b 6), (dg b 5), (dg b 4), (dg b 3), (dg b 2), (dg b 1), (dg b 0), 72, 59, 32, 69, 78, 68, 32, 77, 46] (by kernel_rfl) (by kernel_rfl) rfl (al_all (by kernel_rfl)) (nal_ok (by kernel_rfl))
def o366 : Ob := (73, [.symS 43], .ret (.tup [.agg [.int .i64 2, .str [77, 79, 68, 85, 76, 69], .int .i64 0, .int .i64 0], .int .i64 6, .int .i64 0]))
theorem q366 (a b : Int) (H : Hy a b) : Ans (i0 a b) (s0 a b) o366 := by
  have H0 := H
  exact ans [⟨.idxStr (.c (.symS 43)) (.c (.int .i64 0)), .int .u8 77⟩]
    (⟨by kernel_rfl, trivial⟩)
    [o365]
    ⟨q365 a b H0, trivial⟩ (by kernel_rfl) (by kernel_rfl) (by kernel_rfl)
def o367 : Ob := (69, [.symS 140, .str [32, 9, 10, 13]], .ret (.symS 141))
theorem q367 (a b : Int) (H : Hy a b) : Ans (i0 a b) (s0 a b) o367 := by
  have H0 := H
  exact ans [⟨.bin .eql (.c (.symS 140)) (.c (.str [])), .bool false⟩,
    ⟨.len true (.c (.symS 140)), .int .i64 45⟩,
    ⟨.idxStr (.c (.symS 140)) (.c (.int .i64 0)), .int .u8 32⟩,
    ⟨.slcStr (.c (.symS 140)) (some (.c (.int .i64 1))) none, .symS 141⟩,
    ⟨.len true (.c (.symS 141)), .int .i64 44⟩,
    ⟨.idxStr (.c (.symS 141)) (.c (.int .i64 0)), .int .u8 77⟩]
    (⟨by kernel_rfl, ⟨by kernel_rfl, ⟨by kernel_rfl, ⟨by kernel_rfl, ⟨by kernel_rfl, ⟨by kernel_rfl, trivial⟩⟩⟩⟩⟩⟩)
    []
    trivial (by kernel_rfl) (by kernel_rfl) (by kernel_rfl)
def o368 : Ob := (70, [.symS 141, .str [40, 42]], .ret (.bool false))
theorem q368 (a b : Int) (H : Hy a b) : Ans (i0 a b) (s0 a b) o368 := by
  have H0 := H
  exact ans [⟨.len true (.c (.symS 141)), .int .i64 44⟩,
    ⟨.slcStr (.c (.symS 141)) none (some (.c (.int .i64 2))), .str [77, 59]⟩]
    (⟨by kernel_rfl, ⟨by kernel_rfl, trivial⟩⟩)
    []
    trivial (by kernel_rfl) (by kernel_rfl) (by kernel_rfl)
def o369 : Ob := (129, [.symS 141], .ret (.str [77]))
theorem q369 (a b : Int) (H : Hy a b) : Ans (i0 a b) (s0 a b) o369 := by
  show Ans (i0 a b) (s0 a b) (129, [.symS 141], .ret (.str [77]))
  letI := bare (i0 a b) (s0 a b)
  exact word_ob [77] [59, 32, 67, 79, 78, 83, 84, 32, 99, 32, 61, 32, 48, (dg a 7), (dg a 6), (dg a 5), (dg a 4), (dg a 3), (dg a 2), (dg a 1), (dg a 0), 72, 32, 62, 32, 48, (dg b 7), (dg b 6), (dg b 5), (dg b 4), (dg b 3), (dg b 2), (dg b 1), (dg b 0), 72, 59, 32, 69, 78, 68, 32, 77, 46] (by kernel_rfl) (by kernel_rfl) rfl (al_all (by kernel_rfl)) (nal_ok (by kernel_rfl))
def o370 : Ob := (73, [.symS 141], .ret (.tup [.agg [.int .i64 1, .str [77], .int .i64 0, .int .i64 0], .int .i64 1, .int .i64 0]))
theorem q370 (a b : Int) (H : Hy a b) : Ans (i0 a b) (s0 a b) o370 := by
  have H0 := H
  exact ans [⟨.idxStr (.c (.symS 141)) (.c (.int .i64 0)), .int .u8 77⟩]
    (⟨by kernel_rfl, trivial⟩)
    [o369]
    ⟨q369 a b H0, trivial⟩ (by kernel_rfl) (by kernel_rfl) (by kernel_rfl)
def o371 : Ob := (69, [.symS 142, .str [32, 9, 10, 13]], .ret (.symS 142))
theorem q371 (a b : Int) (H : Hy a b) : Ans (i0 a b) (s0 a b) o371 := by
  have H0 := H
  exact ans [⟨.bin .eql (.c (.symS 142)) (.c (.str [])), .bool false⟩,
    ⟨.len true (.c (.symS 142)), .int .i64 43⟩,
    ⟨.idxStr (.c (.symS 142)) (.c (.int .i64 0)), .int .u8 59⟩]
    (⟨by kernel_rfl, ⟨by kernel_rfl, ⟨by kernel_rfl, trivial⟩⟩⟩)
    []
    trivial (by kernel_rfl) (by kernel_rfl) (by kernel_rfl)
def o372 : Ob := (70, [.symS 142, .str [40, 42]], .ret (.bool false))
theorem q372 (a b : Int) (H : Hy a b) : Ans (i0 a b) (s0 a b) o372 := by
  have H0 := H
  exact ans [⟨.len true (.c (.symS 142)), .int .i64 43⟩,
    ⟨.slcStr (.c (.symS 142)) none (some (.c (.int .i64 2))), .str [59, 32]⟩]
    (⟨by kernel_rfl, ⟨by kernel_rfl, trivial⟩⟩)
    []
    trivial (by kernel_rfl) (by kernel_rfl) (by kernel_rfl)
def o373 : Ob := (129, [.symS 142], .ret (.str []))
theorem q373 (a b : Int) (H : Hy a b) : Ans (i0 a b) (s0 a b) o373 := by
  show Ans (i0 a b) (s0 a b) (129, [.symS 142], .ret (.str []))
  letI := bare (i0 a b) (s0 a b)
  exact word_ob [] [59, 32, 67, 79, 78, 83, 84, 32, 99, 32, 61, 32, 48, (dg a 7), (dg a 6), (dg a 5), (dg a 4), (dg a 3), (dg a 2), (dg a 1), (dg a 0), 72, 32, 62, 32, 48, (dg b 7), (dg b 6), (dg b 5), (dg b 4), (dg b 3), (dg b 2), (dg b 1), (dg b 0), 72, 59, 32, 69, 78, 68, 32, 77, 46] (by kernel_rfl) (by kernel_rfl) rfl (al_all (by kernel_rfl)) (nal_ok (by kernel_rfl))
def o374 : Ob := (73, [.symS 142], .ret (.tup [.agg [.int .i64 6, .str [59], .int .i64 0, .int .i64 0], .int .i64 1, .int .i64 0]))
theorem q374 (a b : Int) (H : Hy a b) : Ans (i0 a b) (s0 a b) o374 := by
  have H0 := H
  exact ans [⟨.idxStr (.c (.symS 142)) (.c (.int .i64 0)), .int .u8 59⟩,
    ⟨.len true (.c (.symS 142)), .int .i64 43⟩,
    ⟨.slcStr (.c (.symS 142)) none (some (.c (.int .i64 2))), .str [59, 32]⟩,
    ⟨.slcStr (.c (.symS 142)) none (some (.c (.int .i64 1))), .str [59]⟩]
    (⟨by kernel_rfl, ⟨by kernel_rfl, ⟨by kernel_rfl, ⟨by kernel_rfl, trivial⟩⟩⟩⟩)
    [o373,
    o14]
    ⟨q373 a b H0, ⟨q14 a b H0, trivial⟩⟩ (by kernel_rfl) (by kernel_rfl) (by kernel_rfl)
def o375 : Ob := (69, [.symS 143, .str [32, 9, 10, 13]], .ret (.symS 144))
theorem q375 (a b : Int) (H : Hy a b) : Ans (i0 a b) (s0 a b) o375 := by
  have H0 := H
  exact ans [⟨.bin .eql (.c (.symS 143)) (.c (.str [])), .bool false⟩,
    ⟨.len true (.c (.symS 143)), .int .i64 42⟩,
    ⟨.idxStr (.c (.symS 143)) (.c (.int .i64 0)), .int .u8 32⟩,
    ⟨.slcStr (.c (.symS 143)) (some (.c (.int .i64 1))) none, .symS 144⟩,
    ⟨.len true (.c (.symS 144)), .int .i64 41⟩,
    ⟨.idxStr (.c (.symS 144)) (.c (.int .i64 0)), .int .u8 67⟩]
    (⟨by kernel_rfl, ⟨by kernel_rfl, ⟨by kernel_rfl, ⟨by kernel_rfl, ⟨by kernel_rfl, ⟨by kernel_rfl, trivial⟩⟩⟩⟩⟩⟩)
    []
    trivial (by kernel_rfl) (by kernel_rfl) (by kernel_rfl)
def o376 : Ob := (70, [.symS 144, .str [40, 42]], .ret (.bool false))
theorem q376 (a b : Int) (H : Hy a b) : Ans (i0 a b) (s0 a b) o376 := by
  have H0 := H
  exact ans [⟨.len true (.c (.symS 144)), .int .i64 41⟩,
    ⟨.slcStr (.c (.symS 144)) none (some (.c (.int .i64 2))), .str [67, 79]⟩]
    (⟨by kernel_rfl, ⟨by kernel_rfl, trivial⟩⟩)
    []
    trivial (by kernel_rfl) (by kernel_rfl) (by kernel_rfl)
def o377 : Ob := (129, [.symS 144], .ret (.str [67, 79, 78, 83, 84]))
theorem q377 (a b : Int) (H : Hy a b) : Ans (i0 a b) (s0 a b) o377 := by
  show Ans (i0 a b) (s0 a b) (129, [.symS 144], .ret (.str [67, 79, 78, 83, 84]))
  letI := bare (i0 a b) (s0 a b)
  exact word_ob [67, 79, 78, 83, 84] [32, 99, 32, 61, 32, 48, (dg a 7), (dg a 6), (dg a 5), (dg a 4), (dg a 3), (dg a 2), (dg a 1), (dg a 0), 72, 32, 62, 32, 48, (dg b 7), (dg b 6), (dg b 5), (dg b 4), (dg b 3), (dg b 2), (dg b 1), (dg b 0), 72, 59, 32, 69, 78, 68, 32, 77, 46] (by kernel_rfl) (by kernel_rfl) rfl (al_all (by kernel_rfl)) (nal_ok (by kernel_rfl))
def o378 : Ob := (73, [.symS 144], .ret (.tup [.agg [.int .i64 2, .str [67, 79, 78, 83, 84], .int .i64 0, .int .i64 0], .int .i64 5, .int .i64 0]))
theorem q378 (a b : Int) (H : Hy a b) : Ans (i0 a b) (s0 a b) o378 := by
  have H0 := H
  exact ans [⟨.idxStr (.c (.symS 144)) (.c (.int .i64 0)), .int .u8 67⟩]
    (⟨by kernel_rfl, trivial⟩)
    [o377]
    ⟨q377 a b H0, trivial⟩ (by kernel_rfl) (by kernel_rfl) (by kernel_rfl)
def o379 : Ob := (69, [.symS 145, .str [32, 9, 10, 13]], .ret (.symS 146))
theorem q379 (a b : Int) (H : Hy a b) : Ans (i0 a b) (s0 a b) o379 := by
  have H0 := H
  exact ans [⟨.bin .eql (.c (.symS 145)) (.c (.str [])), .bool false⟩,
    ⟨.len true (.c (.symS 145)), .int .i64 36⟩,
    ⟨.idxStr (.c (.symS 145)) (.c (.int .i64 0)), .int .u8 32⟩,
    ⟨.slcStr (.c (.symS 145)) (some (.c (.int .i64 1))) none, .symS 146⟩,
    ⟨.len true (.c (.symS 146)), .int .i64 35⟩,
    ⟨.idxStr (.c (.symS 146)) (.c (.int .i64 0)), .int .u8 99⟩]
    (⟨by kernel_rfl, ⟨by kernel_rfl, ⟨by kernel_rfl, ⟨by kernel_rfl, ⟨by kernel_rfl, ⟨by kernel_rfl, trivial⟩⟩⟩⟩⟩⟩)
    []
    trivial (by kernel_rfl) (by kernel_rfl) (by kernel_rfl)
def o380 : Ob := (70, [.symS 146, .str [40, 42]], .ret (.bool false))
theorem q380 (a b : Int) (H : Hy a b) : Ans (i0 a b) (s0 a b) o380 := by
  have H0 := H
  exact ans [⟨.len true (.c (.symS 146)), .int .i64 35⟩,
    ⟨.slcStr (.c (.symS 146)) none (some (.c (.int .i64 2))), .str [99, 32]⟩]
    (⟨by kernel_rfl, ⟨by kernel_rfl, trivial⟩⟩)
    []
    trivial (by kernel_rfl) (by kernel_rfl) (by kernel_rfl)
def o381 : Ob := (129, [.symS 146], .ret (.str [99]))
theorem q381 (a b : Int) (H : Hy a b) : Ans (i0 a b) (s0 a b) o381 := by
  show Ans (i0 a b) (s0 a b) (129, [.symS 146], .ret (.str [99]))
  letI := bare (i0 a b) (s0 a b)
  exact word_ob [99] [32, 61, 32, 48, (dg a 7), (dg a 6), (dg a 5), (dg a 4), (dg a 3), (dg a 2), (dg a 1), (dg a 0), 72, 32, 62, 32, 48, (dg b 7), (dg b 6), (dg b 5), (dg b 4), (dg b 3), (dg b 2), (dg b 1), (dg b 0), 72, 59, 32, 69, 78, 68, 32, 77, 46] (by kernel_rfl) (by kernel_rfl) rfl (al_all (by kernel_rfl)) (nal_ok (by kernel_rfl))
def o382 : Ob := (73, [.symS 146], .ret (.tup [.agg [.int .i64 1, .str [99], .int .i64 0, .int .i64 0], .int .i64 1, .int .i64 0]))
theorem q382 (a b : Int) (H : Hy a b) : Ans (i0 a b) (s0 a b) o382 := by
  have H0 := H
  exact ans [⟨.idxStr (.c (.symS 146)) (.c (.int .i64 0)), .int .u8 99⟩]
    (⟨by kernel_rfl, trivial⟩)
    [o381]
    ⟨q381 a b H0, trivial⟩ (by kernel_rfl) (by kernel_rfl) (by kernel_rfl)
def o383 : Ob := (69, [.symS 147, .str [32, 9, 10, 13]], .ret (.symS 148))
theorem q383 (a b : Int) (H : Hy a b) : Ans (i0 a b) (s0 a b) o383 := by
  have H0 := H
  exact ans [⟨.bin .eql (.c (.symS 147)) (.c (.str [])), .bool false⟩,
    ⟨.len true (.c (.symS 147)), .int .i64 34⟩,
    ⟨.idxStr (.c (.symS 147)) (.c (.int .i64 0)), .int .u8 32⟩,
    ⟨.slcStr (.c (.symS 147)) (some (.c (.int .i64 1))) none, .symS 148⟩,
    ⟨.len true (.c (.symS 148)), .int .i64 33⟩,
    ⟨.idxStr (.c (.symS 148)) (.c (.int .i64 0)), .int .u8 61⟩]
    (⟨by kernel_rfl, ⟨by kernel_rfl, ⟨by kernel_rfl, ⟨by kernel_rfl, ⟨by kernel_rfl, ⟨by kernel_rfl, trivial⟩⟩⟩⟩⟩⟩)
    []
    trivial (by kernel_rfl) (by kernel_rfl) (by kernel_rfl)
def o384 : Ob := (70, [.symS 148, .str [40, 42]], .ret (.bool false))
theorem q384 (a b : Int) (H : Hy a b) : Ans (i0 a b) (s0 a b) o384 := by
  have H0 := H
  exact ans [⟨.len true (.c (.symS 148)), .int .i64 33⟩,
    ⟨.slcStr (.c (.symS 148)) none (some (.c (.int .i64 2))), .str [61, 32]⟩]
    (⟨by kernel_rfl, ⟨by kernel_rfl, trivial⟩⟩)
    []
    trivial (by kernel_rfl) (by kernel_rfl) (by kernel_rfl)
def o385 : Ob := (129, [.symS 148], .ret (.str []))
theorem q385 (a b : Int) (H : Hy a b) : Ans (i0 a b) (s0 a b) o385 := by
  show Ans (i0 a b) (s0 a b) (129, [.symS 148], .ret (.str []))
  letI := bare (i0 a b) (s0 a b)
  exact word_ob [] [61, 32, 48, (dg a 7), (dg a 6), (dg a 5), (dg a 4), (dg a 3), (dg a 2), (dg a 1), (dg a 0), 72, 32, 62, 32, 48, (dg b 7), (dg b 6), (dg b 5), (dg b 4), (dg b 3), (dg b 2), (dg b 1), (dg b 0), 72, 59, 32, 69, 78, 68, 32, 77, 46] (by kernel_rfl) (by kernel_rfl) rfl (al_all (by kernel_rfl)) (nal_ok (by kernel_rfl))
def o386 : Ob := (73, [.symS 148], .ret (.tup [.agg [.int .i64 6, .str [61], .int .i64 0, .int .i64 0], .int .i64 1, .int .i64 0]))
theorem q386 (a b : Int) (H : Hy a b) : Ans (i0 a b) (s0 a b) o386 := by
  have H0 := H
  exact ans [⟨.idxStr (.c (.symS 148)) (.c (.int .i64 0)), .int .u8 61⟩,
    ⟨.len true (.c (.symS 148)), .int .i64 33⟩,
    ⟨.slcStr (.c (.symS 148)) none (some (.c (.int .i64 2))), .str [61, 32]⟩,
    ⟨.slcStr (.c (.symS 148)) none (some (.c (.int .i64 1))), .str [61]⟩]
    (⟨by kernel_rfl, ⟨by kernel_rfl, ⟨by kernel_rfl, ⟨by kernel_rfl, trivial⟩⟩⟩⟩)
    [o385,
    o27]
    ⟨q385 a b H0, ⟨q27 a b H0, trivial⟩⟩ (by kernel_rfl) (by kernel_rfl) (by kernel_rfl)
def o387 : Ob := (69, [.symS 149, .str [32, 9, 10, 13]], .ret (.symS 150))
theorem q387 (a b : Int) (H : Hy a b) : Ans (i0 a b) (s0 a b) o387 := by
  have H0 := H
  exact ans [⟨.bin .eql (.c (.symS 149)) (.c (.str [])), .bool false⟩,
    ⟨.len true (.c (.symS 149)), .int .i64 32⟩,
    ⟨.idxStr (.c (.symS 149)) (.c (.int .i64 0)), .int .u8 32⟩,
    ⟨.slcStr (.c (.symS 149)) (some (.c (.int .i64 1))) none, .symS 150⟩,
    ⟨.len true (.c (.symS 150)), .int .i64 31⟩,
    ⟨.idxStr (.c (.symS 150)) (.c (.int .i64 0)), .int .u8 48⟩]
    (⟨by kernel_rfl, ⟨by kernel_rfl, ⟨by kernel_rfl, ⟨by kernel_rfl, ⟨by kernel_rfl, ⟨by kernel_rfl, trivial⟩⟩⟩⟩⟩⟩)
    []
    trivial (by kernel_rfl) (by kernel_rfl) (by kernel_rfl)
def o388 : Ob := (70, [.symS 150, .str [40, 42]], .ret (.bool false))
theorem q388 (a b : Int) (H : Hy a b) : Ans (i0 a b) (s0 a b) o388 := by
  have H0 := H
  exact ans [⟨.len true (.c (.symS 150)), .int .i64 31⟩,
    ⟨.slcStr (.c (.symS 150)) none (some (.c (.int .i64 2))), .symS 56⟩,
    ⟨.bin .eql (.c (.symS 56)) (.c (.str [40, 42])), .bool false⟩]
    (⟨by kernel_rfl, ⟨by kernel_rfl, ⟨by kernel_rfl, trivial⟩⟩⟩)
    []
    trivial (by kernel_rfl) (by kernel_rfl) (by kernel_rfl)
def o389 : Ob := (129, [.symS 150], .ret (.symS 0))
theorem q389 (a b : Int) (H : Hy a b) : Ans (i0 a b) (s0 a b) o389 := by
  show Ans (i0 a b) (s0 a b) (129, [.symS 150], .ret (.symS 0))
  letI := bare (i0 a b) (s0 a b)
  exact word_ob (dgs a ++ [72]) [32, 62, 32, 48, (dg b 7), (dg b 6), (dg b 5), (dg b 4), (dg b 3), (dg b 2), (dg b 1), (dg b 0), 72, 59, 32, 69, 78, 68, 32, 77, 46] (by kernel_rfl) (by kernel_rfl) rfl (dgs_alnum a) (nal_ok (by kernel_rfl))
def o390 : Ob := (73, [.symS 150], .ret (.tup [.agg [.int .i64 3, .str [], .sym .i64 50, .int .i64 0], .int .i64 10, .int .i64 0]))
theorem q390 (a b : Int) (H : Hy a b) : Ans (i0 a b) (s0 a b) o390 := by
  have H0 := H
  exact ans [⟨.idxStr (.c (.symS 150)) (.c (.int .i64 0)), .int .u8 48⟩,
    ⟨.len true (.c (.symS 0)), .int .i64 10⟩]
    (⟨by kernel_rfl, ⟨by kernel_rfl, trivial⟩⟩)
    [o389,
    o35]
    ⟨q389 a b H0, ⟨q35 a b H0, trivial⟩⟩ (by kernel_rfl) (by kernel_rfl) (by kernel_rfl)
def o391 : Ob := (69, [.symS 151, .str [32, 9, 10, 13]], .ret (.symS 152))
theorem q391 (a b : Int) (H : Hy a b) : Ans (i0 a b) (s0 a b) o391 := by
  have H0 := H
  exact ans [⟨.bin .eql (.c (.symS 151)) (.c (.str [])), .bool false⟩,
    ⟨.len true (.c (.symS 151)), .int .i64 21⟩,
    ⟨.idxStr (.c (.symS 151)) (.c (.int .i64 0)), .int .u8 32⟩,
    ⟨.slcStr (.c (.symS 151)) (some (.c (.int .i64 1))) none, .symS 152⟩,
    ⟨.len true (.c (.symS 152)), .int .i64 20⟩,
    ⟨.idxStr (.c (.symS 152)) (.c (.int .i64 0)), .int .u8 62⟩]
    (⟨by kernel_rfl, ⟨by kernel_rfl, ⟨by kernel_rfl, ⟨by kernel_rfl, ⟨by kernel_rfl, ⟨by kernel_rfl, trivial⟩⟩⟩⟩⟩⟩)
    []
    trivial (by kernel_rfl) (by kernel_rfl) (by kernel_rfl)
def o392 : Ob := (70, [.symS 152, .str [40, 42]], .ret (.bool false))
theorem q392 (a b : Int) (H : Hy a b) : Ans (i0 a b) (s0 a b) o392 := by
  have H0 := H
  exact ans [⟨.len true (.c (.symS 152)), .int .i64 20⟩,
    ⟨.slcStr (.c (.symS 152)) none (some (.c (.int .i64 2))), .str [62, 32]⟩]
    (⟨by kernel_rfl, ⟨by kernel_rfl, trivial⟩⟩)
    []
    trivial (by kernel_rfl) (by kernel_rfl) (by kernel_rfl)
def o393 : Ob := (129, [.symS 152], .ret (.str []))
theorem q393 (a b : Int) (H : Hy a b) : Ans (i0 a b) (s0 a b) o393 := by
  show Ans (i0 a b) (s0 a b) (129, [.symS 152], .ret (.str []))
  letI := bare (i0 a b) (s0 a b)
  exact word_ob [] [62, 32, 48, (dg b 7), (dg b 6), (dg b 5), (dg b 4), (dg b 3), (dg b 2), (dg b 1), (dg b 0), 72, 59, 32, 69, 78, 68, 32, 77, 46] (by kernel_rfl) (by kernel_rfl) rfl (al_all (by kernel_rfl)) (nal_ok (by kernel_rfl))
def o394 : Ob := (224, [.str [43, 45, 42, 47, 126, 38, 46, 44, 59, 124, 40, 41, 91, 93, 123, 125, 58, 94, 61, 35, 60, 62], .int .u8 62], .ret (.int .i64 21))
theorem q394 (a b : Int) (H : Hy a b) : Ans (i0 a b) (s0 a b) o394 := by
  show Ans (i0 a b) (s0 a b) (224, [.str [43, 45, 42, 47, 126, 38, 46, 44, 59, 124, 40, 41, 91, 93, 123, 125, 58, 94, 61, 35, 60, 62], .int .u8 62], .ret (.int .i64 21))
  letI := bare (i0 a b) (s0 a b)
  exact index_ob _ _ _ (by kernel_rfl)
def o395 : Ob := (73, [.symS 152], .ret (.tup [.agg [.int .i64 6, .str [62], .int .i64 0, .int .i64 0], .int .i64 1, .int .i64 0]))
theorem q395 (a b : Int) (H : Hy a b) : Ans (i0 a b) (s0 a b) o395 := by
  have H0 := H
  exact ans [⟨.idxStr (.c (.symS 152)) (.c (.int .i64 0)), .int .u8 62⟩,
    ⟨.len true (.c (.symS 152)), .int .i64 20⟩,
    ⟨.slcStr (.c (.symS 152)) none (some (.c (.int .i64 2))), .str [62, 32]⟩,
    ⟨.slcStr (.c (.symS 152)) none (some (.c (.int .i64 1))), .str [62]⟩]
    (⟨by kernel_rfl, ⟨by kernel_rfl, ⟨by kernel_rfl, ⟨by kernel_rfl, trivial⟩⟩⟩⟩)
    [o393,
    o394]
    ⟨q393 a b H0, ⟨q394 a b H0, trivial⟩⟩ (by kernel_rfl) (by kernel_rfl) (by kernel_rfl)
def o396 : Ob := (22, [.symS 43], .ret (.tup [.sl [] [.agg [.int .i64 2, .str [77, 79, 68, 85, 76, 69], .int .i64 0, .int .i64 0], .agg [.int .i64 1, .str [77], .int .i64 0, .int .i64 7], .agg [.int .i64 6, .str [59], .int .i64 0, .int .i64 8], .agg [.int .i64 2, .str [67, 79, 78, 83, 84], .int .i64 0, .int .i64 10], .agg [.int .i64 1, .str [99], .int .i64 0, .int .i64 16], .agg [.int .i64 6, .str [61], .int .i64 0, .int .i64 18], .agg [.int .i64 3, .str [], .sym .i64 50, .int .i64 20], .agg [.int .i64 6, .str [62], .int .i64 0, .int .i64 31], .agg [.int .i64 3, .str [], .sym .i64 53, .int .i64 33], .agg [.int .i64 6, .str [59], .int .i64 0, .int .i64 43], .agg [.int .i64 2, .str [69, 78, 68], .int .i64 0, .int .i64 45], .agg [.int .i64 1, .str [77], .int .i64 0, .int .i64 49], .agg [.int .i64 6, .str [46], .int .i64 0, .int .i64 50], .agg [.int .i64 0, .str [], .int .i64 0, .int .i64 51]], .int .i64 0, .int .i64 0]))
theorem q396 (a b : Int) (H : Hy a b) : Ans (i0 a b) (s0 a b) o396 := by
  have H0 := H
  exact ans [⟨.len true (.c (.symS 43)), .int .i64 51⟩,
    ⟨.slcStr (.c (.symS 43)) (some (.c (.int .i64 0))) none, .symS 43⟩,
    ⟨.bin .eql (.c (.symS 43)) (.c (.str [])), .bool false⟩,
    ⟨.slcStr (.c (.symS 43)) (some (.c (.int .i64 6))) none, .symS 140⟩,
    ⟨.len true (.c (.symS 141)), .int .i64 44⟩,
    ⟨.bin .eql (.c (.symS 141)) (.c (.str [])), .bool false⟩,
    ⟨.slcStr (.c (.symS 43)) (some (.c (.int .i64 8))) none, .symS 142⟩,
    ⟨.len true (.c (.symS 142)), .int .i64 43⟩,
    ⟨.bin .eql (.c (.symS 142)) (.c (.str [])), .bool false⟩,
    ⟨.slcStr (.c (.symS 43)) (some (.c (.int .i64 9))) none, .symS 143⟩,
    ⟨.len true (.c (.symS 144)), .int .i64 41⟩,
    ⟨.bin .eql (.c (.symS 144)) (.c (.str [])), .bool false⟩,
    ⟨.slcStr (.c (.symS 43)) (some (.c (.int .i64 15))) none, .symS 145⟩,
    ⟨.len true (.c (.symS 146)), .int .i64 35⟩,
    ⟨.bin .eql (.c (.symS 146)) (.c (.str [])), .bool false⟩,
    ⟨.slcStr (.c (.symS 43)) (some (.c (.int .i64 17))) none, .symS 147⟩,
    ⟨.len true (.c (.symS 148)), .int .i64 33⟩,
    ⟨.bin .eql (.c (.symS 148)) (.c (.str [])), .bool false⟩,
    ⟨.slcStr (.c (.symS 43)) (some (.c (.int .i64 19))) none, .symS 149⟩,
    ⟨.len true (.c (.symS 150)), .int .i64 31⟩,
    ⟨.bin .eql (.c (.symS 150)) (.c (.str [])), .bool false⟩,
    ⟨.slcStr (.c (.symS 43)) (some (.c (.int .i64 30))) none, .symS 151⟩,
    ⟨.len true (.c (.symS 152)), .int .i64 20⟩,
    ⟨.bin .eql (.c (.symS 152)) (.c (.str [])), .bool false⟩,
    ⟨.slcStr (.c (.symS 43)) (some (.c (.int .i64 32))) none, .symS 59⟩,
    ⟨.len true (.c (.symS 60)), .int .i64 18⟩,
    ⟨.bin .eql (.c (.symS 60)) (.c (.str [])), .bool false⟩,
    ⟨.slcStr (.c (.symS 43)) (some (.c (.int .i64 43))) none, .str [59, 32, 69, 78, 68, 32, 77, 46]⟩,
    ⟨.slcStr (.c (.symS 43)) (some (.c (.int .i64 44))) none, .str [32, 69, 78, 68, 32, 77, 46]⟩,
    ⟨.slcStr (.c (.symS 43)) (some (.c (.int .i64 48))) none, .str [32, 77, 46]⟩,
    ⟨.slcStr (.c (.symS 43)) (some (.c (.int .i64 50))) none, .str [46]⟩,
    ⟨.slcStr (.c (.symS 43)) (some (.c (.int .i64 51))) none, .str []⟩]
    (⟨by kernel_rfl, ⟨by kernel_rfl, ⟨by kernel_rfl, ⟨by kernel_rfl, ⟨by kernel_rfl, ⟨by kernel_rfl, ⟨by kernel_rfl, ⟨by kernel_rfl, ⟨by kernel_rfl, ⟨by kernel_rfl, ⟨by kernel_rfl, ⟨by kernel_rfl, ⟨by kernel_rfl, ⟨by kernel_rfl, ⟨by kernel_rfl, ⟨by kernel_rfl, ⟨by kernel_rfl, ⟨by kernel_rfl, ⟨by kernel_rfl, ⟨by kernel_rfl, ⟨by kernel_rfl, ⟨by kernel_rfl, ⟨by kernel_rfl, ⟨by kernel_rfl, ⟨by kernel_rfl, ⟨by kernel_rfl, ⟨by kernel_rfl, ⟨by kernel_rfl, ⟨by kernel_rfl, ⟨by kernel_rfl, ⟨by kernel_rfl, ⟨by kernel_rfl, trivial⟩⟩⟩⟩⟩⟩⟩⟩⟩⟩⟩⟩⟩⟩⟩⟩⟩⟩⟩⟩⟩⟩⟩⟩⟩⟩⟩⟩⟩⟩⟩⟩)
    [o363,
    o364,
    o366,
    o367,
    o368,
    o370,
    o371,
    o372,
    o374,
    o375,
    o376,
    o378,
    o379,
    o380,
    o382,
    o383,
    o384,
    o386,
    o387,
    o388,
    o390,
    o391,
    o392,
    o395,
    o42,
    o43,
    o49,
    o14,
    o50]
    ⟨q363 a b H0, ⟨q364 a b H0, ⟨q366 a b H0, ⟨q367 a b H0, ⟨q368 a b H0, ⟨q370 a b H0, ⟨q371 a b H0, ⟨q372 a b H0, ⟨q374 a b H0, ⟨q375 a b H0, ⟨q376 a b H0, ⟨q378 a b H0, ⟨q379 a b H0, ⟨q380 a b H0, ⟨q382 a b H0, ⟨q383 a b H0, ⟨q384 a b H0, ⟨q386 a b H0, ⟨q387 a b H0, ⟨q388 a b H0, ⟨q390 a b H0, ⟨q391 a b H0, ⟨q392 a b H0, ⟨q395 a b H0, ⟨q42 a b H0, ⟨q43 a b H0, ⟨q49 a b H0, ⟨q14 a b H0, ⟨q50 a b H0, trivial⟩⟩⟩⟩⟩⟩⟩⟩⟩⟩⟩⟩⟩⟩⟩⟩⟩⟩⟩⟩⟩⟩⟩⟩⟩⟩⟩⟩⟩ (by kernel_rfl) (by kernel_rfl) (by kernel_rfl)
def o397 : Ob := (170, [.int .i64 28, .sym .i64 50, .sym .i64 53], .ret (.int .i64 0))
theorem q397 (a b : Int) (H : Hy a b) (hc : a < b) : Ans (i0 a b) (s0 a b) o397 := by
  have H0 := H
  have hc0 := hc
  obtain ⟨h1, h2, h3, h4⟩ := H
  have ea := q0_lt a
  have fa : qn a 0 = (a % 4294967296).toNat := rfl
  have eb := q0_lt b
  have fb : qn b 0 = (b % 4294967296).toNat := rfl
  exact ans [⟨.convI .i32 (.c (.sym .i64 50)), .sym .i32 0⟩,
    ⟨.convI .i32 (.c (.sym .i64 53)), .sym .i32 1⟩,
    ⟨.bin .gtr (.c (.sym .i64 50)) (.c (.sym .i64 53)), .bool false⟩]
    (⟨(Eq.trans (b := some (.int .i32 (IntKind.i32.wrap (a : Int)))) (by kernel_rfl) (f_int (p := (IntKind.i32.wrap (a : Int))) (q := (a : Int)) (by simp only [IntKind.wrap_i64, IntKind.wrap_i32, IntKind.wrap_u64, IntKind.wrap_u32, Int.tdiv_one, Int.tmod_one] <;> omega))), ⟨(Eq.trans (b := some (.int .i32 (IntKind.i32.wrap (b : Int)))) (by kernel_rfl) (f_int (p := (IntKind.i32.wrap (b : Int))) (q := (b : Int)) (by simp only [IntKind.wrap_i64, IntKind.wrap_i32, IntKind.wrap_u64, IntKind.wrap_u32, Int.tdiv_one, Int.tmod_one] <;> omega))), ⟨(Eq.trans (b := some (.bool (decide ((a : Int) > (b : Int))))) (by kernel_rfl) (f_bool (q := false) (decide_eq_false (by omega)))), trivial⟩⟩⟩)
    []
    trivial (by kernel_rfl) (by kernel_rfl) (by kernel_rfl)
def o398 : Ob := (170, [.int .i64 28, .sym .i64 50, .sym .i64 53], .ret (.int .i64 0))
theorem q398 (a b : Int) (H : Hy a b) (hc : a = b) : Ans (i0 a b) (s0 a b) o398 := by
  have H0 := H
  have hc0 := hc
  obtain ⟨h1, h2, h3, h4⟩ := H
  have ea := q0_lt a
  have fa : qn a 0 = (a % 4294967296).toNat := rfl
  have eb := q0_lt b
  have fb : qn b 0 = (b % 4294967296).toNat := rfl
  exact ans [⟨.convI .i32 (.c (.sym .i64 50)), .sym .i32 0⟩,
    ⟨.convI .i32 (.c (.sym .i64 53)), .sym .i32 1⟩,
    ⟨.bin .gtr (.c (.sym .i64 50)) (.c (.sym .i64 53)), .bool false⟩]
    (⟨(Eq.trans (b := some (.int .i32 (IntKind.i32.wrap (a : Int)))) (by kernel_rfl) (f_int (p := (IntKind.i32.wrap (a : Int))) (q := (a : Int)) (by simp only [IntKind.wrap_i64, IntKind.wrap_i32, IntKind.wrap_u64, IntKind.wrap_u32, Int.tdiv_one, Int.tmod_one] <;> omega))), ⟨(Eq.trans (b := some (.int .i32 (IntKind.i32.wrap (b : Int)))) (by kernel_rfl) (f_int (p := (IntKind.i32.wrap (b : Int))) (q := (b : Int)) (by simp only [IntKind.wrap_i64, IntKind.wrap_i32, IntKind.wrap_u64, IntKind.wrap_u32, Int.tdiv_one, Int.tmod_one] <;> omega))), ⟨(Eq.trans (b := some (.bool (decide ((a : Int) > (b : Int))))) (by kernel_rfl) (f_bool (q := false) (decide_eq_false (by omega)))), trivial⟩⟩⟩)
    []
    trivial (by kernel_rfl) (by kernel_rfl) (by kernel_rfl)
def o399 : Ob := (170, [.int .i64 28, .sym .i64 50, .sym .i64 53], .ret (.int .i64 1))
theorem q399 (a b : Int) (H : Hy a b) (hc : b < a) : Ans (i0 a b) (s0 a b) o399 := by
  have H0 := H
  have hc0 := hc
  obtain ⟨h1, h2, h3, h4⟩ := H
  have ea := q0_lt a
  have fa : qn a 0 = (a % 4294967296).toNat := rfl
  have eb := q0_lt b
  have fb : qn b 0 = (b % 4294967296).toNat := rfl
  exact ans [⟨.convI .i32 (.c (.sym .i64 50)), .sym .i32 0⟩,
    ⟨.convI .i32 (.c (.sym .i64 53)), .sym .i32 1⟩,
    ⟨.bin .gtr (.c (.sym .i64 50)) (.c (.sym .i64 53)), .bool true⟩]
    (⟨(Eq.trans (b := some (.int .i32 (IntKind.i32.wrap (a : Int)))) (by kernel_rfl) (f_int (p := (IntKind.i32.wrap (a : Int))) (q := (a : Int)) (by simp only [IntKind.wrap_i64, IntKind.wrap_i32, IntKind.wrap_u64, IntKind.wrap_u32, Int.tdiv_one, Int.tmod_one] <;> omega))), ⟨(Eq.trans (b := some (.int .i32 (IntKind.i32.wrap (b : Int)))) (by kernel_rfl) (f_int (p := (IntKind.i32.wrap (b : Int))) (q := (b : Int)) (by simp only [IntKind.wrap_i64, IntKind.wrap_i32, IntKind.wrap_u64, IntKind.wrap_u32, Int.tdiv_one, Int.tmod_one] <;> omega))), ⟨(Eq.trans (b := some (.bool (decide ((a : Int) > (b : Int))))) (by kernel_rfl) (f_bool (q := true) (decide_eq_true (by omega)))), trivial⟩⟩⟩)
    []
    trivial (by kernel_rfl) (by kernel_rfl) (by kernel_rfl)
def o400 : Ob := (170, [.int .i64 28, .sym .i64 50, .sym .i64 53], .ret (.sym .i64 61))
theorem q400 (a b : Int) (H : Hy a b) : Ans (i0 a b) (s0 a b) o400 := by
  show Ans (i0 a b) (s0 a b) (170, [.int .i64 28, .sym .i64 50, .sym .i64 53], .ret (.sym .i64 61))
  rcases Int.lt_trichotomy a b with h | h | h
  · exact (q397 a b H h).den (congrArg (Vl.int .i64) ((by (first | rfl | omega | (simp only [tr] <;> split <;> omega) | (simp only [tr] <;> omega)) : (0 : Int) = ((tr (a > b)) : Int))))
  · exact (q398 a b H h).den (congrArg (Vl.int .i64) ((by (first | rfl | omega | (simp only [tr] <;> split <;> omega) | (simp only [tr] <;> omega)) : (0 : Int) = ((tr (a > b)) : Int))))
  · exact (q399 a b H h).den (congrArg (Vl.int .i64) ((by (first | rfl | omega | (simp only [tr] <;> split <;> omega) | (simp only [tr] <;> omega)) : (1 : Int) = ((tr (a > b)) : Int))))
def o401 : Ob := (5, [.symS 43, .nils], .ret (.tup [.agg [.str [77], .bool false, .nils, .nils, .sl [] [.agg [.int .i64 0, .int .i64 0, .int .i64 0, .int .i64 0, .nils, .int .i64 0, .int .i64 0], .agg [.int .i64 1, .int .i64 0, .int .i64 0, .int .i64 0, .nils, .int .i64 4, .int .i64 0], .agg [.int .i64 2, .int .i64 0, .int .i64 0, .int .i64 0, .nils, .int .i64 1, .int .i64 0], .agg [.int .i64 3, .int .i64 0, .int .i64 0, .int .i64 0, .nils, .int .i64 1, .int .i64 0], .agg [.int .i64 4, .int .i64 0, .int .i64 0, .int .i64 0, .nils, .int .i64 1, .int .i64 0], .agg [.int .i64 5, .int .i64 0, .int .i64 0, .int .i64 0, .nils, .int .i64 4, .int .i64 0], .agg [.int .i64 6, .int .i64 0, .int .i64 0, .int .i64 0, .nils, .int .i64 4, .int .i64 0], .agg [.int .i64 7, .int .i64 0, .int .i64 0, .int .i64 0, .nils, .int .i64 0, .int .i64 0]], .nils, .sl [] [.agg [.str [99], .int .i64 2, .sym .i64 61, .str [], .bool false]], .nils, .nils, .nils], .int .i64 0, .int .i64 0]))
theorem q401 (a b : Int) (H : Hy a b) : Ans (i0 a b) (s0 a b) o401 := by
  have H0 := H
  exact ans []
    (trivial)
    [o396,
    o54,
    o57,
    o400]
    ⟨q396 a b H0, ⟨q54 a b H0, ⟨q57 a b H0, ⟨q400 a b H0, trivial⟩⟩⟩⟩ (by kernel_rfl) (by kernel_rfl) (by kernel_rfl)
def o402 : Ob := (69, [.symS 44, .str [32, 9, 10, 13]], .ret (.symS 44))
theorem q402 (a b : Int) (H : Hy a b) : Ans (i0 a b) (s0 a b) o402 := by
  have H0 := H
  exact ans [⟨.bin .eql (.c (.symS 44)) (.c (.str [])), .bool false⟩,
    ⟨.len true (.c (.symS 44)), .int .i64 52⟩,
    ⟨.idxStr (.c (.symS 44)) (.c (.int .i64 0)), .int .u8 77⟩]
    (⟨by kernel_rfl, ⟨by kernel_rfl, ⟨by kernel_rfl, trivial⟩⟩⟩)
    []
    trivial (by kernel_rfl) (by kernel_rfl) (by kernel_rfl)
def o403 : Ob := (70, [.symS 44, .str [40, 42]], .ret (.bool false))
theorem q403 (a b : Int) (H : Hy a b) : Ans (i0 a b) (s0 a b) o403 := by
  have H0 := H
  exact ans [⟨.len true (.c (.symS 44)), .int .i64 52⟩,
    ⟨.slcStr (.c (.symS 44)) none (some (.c (.int .i64 2))), .str [77, 79]⟩]
    (⟨by kernel_rfl, ⟨by kernel_rfl, trivial⟩⟩)
    []
    trivial (by kernel_rfl) (by kernel_rfl) (by kernel_rfl)
def o404 : Ob := (129, [.symS 44], .ret (.str [77, 79, 68, 85, 76, 69]))
theorem q404 (a b : Int) (H : Hy a b) : Ans (i0 a b) (s0 a b) o404 := by
  show Ans (i0 a b) (s0 a b) (129, [.symS 44], .ret (.str [77, 79, 68, 85, 76, 69]))
  letI := bare (i0 a b) (s0 a b)
  exact word_ob [77, 79, 68, 85, 76, 69] [32, 77, 59, 32, 67, 79, 78, 83, 84, 32, 99, 32, 61, 32, 48, (dg a 7), (dg a 6), (dg a 5), (dg a 4), (dg a 3), (dg a 2), (dg a 1), (dg a 0), 72, 32, 62, 61, 32, 48, (dg b 7), (dg b 6), (dg b 5), (dg b 4), (dg b 3), (dg b 2), (dg b 1), (dg b 0), 72, 59, 32, 69, 78, 68, 32, 77, 46] (by kernel_rfl) (by kernel_rfl) rfl (al_all (by kernel_rfl)) (nal_ok (by kernel_rfl))
def o405 : Ob := (73, [.symS 44], .ret (.tup [.agg [.int .i64 2, .str [77, 79, 68, 85, 76, 69], .int .i64 0, .int .i64 0], .int .i64 6, .int .i64 0]))
theorem q405 (a b : Int) (H : Hy a b) : Ans (i0 a b) (s0 a b) o405 := by
  have H0 := H
  exact ans [⟨.idxStr (.c (.symS 44)) (.c (.int .i64 0)), .int .u8 77⟩]
    (⟨by kernel_rfl, trivial⟩)
    [o404]
    ⟨q404 a b H0, trivial⟩ (by kernel_rfl) (by kernel_rfl) (by kernel_rfl)
def o406 : Ob := (69, [.symS 153, .str [32, 9, 10, 13]], .ret (.symS 154))
theorem q406 (a b : Int) (H : Hy a b) : Ans (i0 a b) (s0 a b) o406 := by
  have H0 := H
  exact ans [⟨.bin .eql (.c (.symS 153)) (.c (.str [])), .bool false⟩,
    ⟨.len true (.c (.symS 153)), .int .i64 46⟩,
    ⟨.idxStr (.c (.symS 153)) (.c (.int .i64 0)), .int .u8 32⟩,
    ⟨.slcStr (.c (.symS 153)) (some (.c (.int .i64 1))) none, .symS 154⟩,
    ⟨.len true (.c (.symS 154)), .int .i64 45⟩,
    ⟨.idxStr (.c (.symS 154)) (.c (.int .i64 0)), .int .u8 77⟩]
    (⟨by kernel_rfl, ⟨by kernel_rfl, ⟨by kernel_rfl, ⟨by kernel_rfl, ⟨by kernel_rfl, ⟨by kernel_rfl, trivial⟩⟩⟩⟩⟩⟩)
    []
    trivial (by kernel_rfl) (by kernel_rfl) (by kernel_rfl)
def o407 : Ob := (70, [.symS 154, .str [40, 42]], .ret (.bool false))
theorem q407 (a b : Int) (H : Hy a b) : Ans (i0 a b) (s0 a b) o407 := by
  have H0 := H
  exact ans [⟨.len true (.c (.symS 154)), .int .i64 45⟩,
    ⟨.slcStr (.c (.symS 154)) none (some (.c (.int .i64 2))), .str [77, 59]⟩]
    (⟨by kernel_rfl, ⟨by kernel_rfl, trivial⟩⟩)
    []
    trivial (by kernel_rfl) (by kernel_rfl) (by kernel_rfl)
def o408 : Ob := (129, [.symS 154], .ret (.str [77]))
theorem q408 (a b : Int) (H : Hy a b) : Ans (i0 a b) (s0 a b) o408 := by
  show Ans (i0 a b) (s0 a b) (129, [.symS 154], .ret (.str [77]))
  letI := bare (i0 a b) (s0 a b)
  exact word_ob [77] [59, 32, 67, 79, 78, 83, 84, 32, 99, 32, 61, 32, 48, (dg a 7), (dg a 6), (dg a 5), (dg a 4), (dg a 3), (dg a 2), (dg a 1), (dg a 0), 72, 32, 62, 61, 32, 48, (dg b 7), (dg b 6), (dg b 5), (dg b 4), (dg b 3), (dg b 2), (dg b 1), (dg b 0), 72, 59, 32, 69, 78, 68, 32, 77, 46] (by kernel_rfl) (by kernel_rfl) rfl (al_all (by kernel_rfl)) (nal_ok (by kernel_rfl))
def o409 : Ob := (73, [.symS 154], .ret (.tup [.agg [.int .i64 1, .str [77], .int .i64 0, .int .i64 0], .int .i64 1, .int .i64 0]))
theorem q409 (a b : Int) (H : Hy a b) : Ans (i0 a b) (s0 a b) o409 := by
  have H0 := H
  exact ans [⟨.idxStr (.c (.symS 154)) (.c (.int .i64 0)), .int .u8 77⟩]
    (⟨by kernel_rfl, trivial⟩)
    [o408]
    ⟨q408 a b H0, trivial⟩ (by kernel_rfl) (by kernel_rfl) (by kernel_rfl)
def o410 : Ob := (69, [.symS 155, .str [32, 9, 10, 13]], .ret (.symS 155))
theorem q410 (a b : Int) (H : Hy a b) : Ans (i0 a b) (s0 a b) o410 := by
  have H0 := H
  exact ans [⟨.bin .eql (.c (.symS 155)) (.c (.str [])), .bool false⟩,
    ⟨.len true (.c (.symS 155)), .int .i64 44⟩,
    ⟨.idxStr (.c (.symS 155)) (.c (.int .i64 0)), .int .u8 59⟩]
    (⟨by kernel_rfl, ⟨by kernel_rfl, ⟨by kernel_rfl, trivial⟩⟩⟩)
    []
    trivial (by kernel_rfl) (by kernel_rfl) (by kernel_rfl)
def o411 : Ob := (70, [.symS 155, .str [40, 42]], .ret (.bool false))
theorem q411 (a b : Int) (H : Hy a b) : Ans (i0 a b) (s0 a b) o411 := by
  have H0 := H
  exact ans [⟨.len true (.c (.symS 155)), .int .i64 44⟩,
    ⟨.slcStr (.c (.symS 155)) none (some (.c (.int .i64 2))), .str [59, 32]⟩]
    (⟨by kernel_rfl, ⟨by kernel_rfl, trivial⟩⟩)
    []
    trivial (by kernel_rfl) (by kernel_rfl) (by kernel_rfl)
def o412 : Ob := (129, [.symS 155], .ret (.str []))
theorem q412 (a b : Int) (H : Hy a b) : Ans (i0 a b) (s0 a b) o412 := by
  show Ans (i0 a b) (s0 a b) (129, [.symS 155], .ret (.str []))
  letI := bare (i0 a b) (s0 a b)
  exact word_ob [] [59, 32, 67, 79, 78, 83, 84, 32, 99, 32, 61, 32, 48, (dg a 7), (dg a 6), (dg a 5), (dg a 4), (dg a 3), (dg a 2), (dg a 1), (dg a 0), 72, 32, 62, 61, 32, 48, (dg b 7), (dg b 6), (dg b 5), (dg b 4), (dg b 3), (dg b 2), (dg b 1), (dg b 0), 72, 59, 32, 69, 78, 68, 32, 77, 46] (by kernel_rfl) (by kernel_rfl) rfl (al_all (by kernel_rfl)) (nal_ok (by kernel_rfl))
def o413 : Ob := (73, [.symS 155], .ret (.tup [.agg [.int .i64 6, .str [59], .int .i64 0, .int .i64 0], .int .i64 1, .int .i64 0]))
theorem q413 (a b : Int) (H : Hy a b) : Ans (i0 a b) (s0 a b) o413 := by
  have H0 := H
  exact ans [⟨.idxStr (.c (.symS 155)) (.c (.int .i64 0)), .int .u8 59⟩,
    ⟨.len true (.c (.symS 155)), .int .i64 44⟩,
    ⟨.slcStr (.c (.symS 155)) none (some (.c (.int .i64 2))), .str [59, 32]⟩,
    ⟨.slcStr (.c (.symS 155)) none (some (.c (.int .i64 1))), .str [59]⟩]
    (⟨by kernel_rfl, ⟨by kernel_rfl, ⟨by kernel_rfl, ⟨by kernel_rfl, trivial⟩⟩⟩⟩)
    [o412,
    o14]
    ⟨q412 a b H0, ⟨q14 a b H0, trivial⟩⟩ (by kernel_rfl) (by kernel_rfl) (by kernel_rfl)
def o414 : Ob := (69, [.symS 156, .str [32, 9, 10, 13]], .ret (.symS 157))
theorem q414 (a b : Int) (H : Hy a b) : Ans (i0 a b) (s0 a b) o414 := by
  have H0 := H
  exact ans [⟨.bin .eql (.c (.symS 156)) (.c (.str [])), .bool false⟩,
    ⟨.len true (.c (.symS 156)), .int .i64 43⟩,
    ⟨.idxStr (.c (.symS 156)) (.c (.int .i64 0)), .int .u8 32⟩,
    ⟨.slcStr (.c (.symS 156)) (some (.c (.int .i64 1))) none, .symS 157⟩,
    ⟨.len true (.c (.symS 157)), .int .i64 42⟩,
    ⟨.idxStr (.c (.symS 157)) (.c (.int .i64 0)), .int .u8 67⟩]
    (⟨by kernel_rfl, ⟨by kernel_rfl, ⟨by kernel_rfl, ⟨by kernel_rfl, ⟨by kernel_rfl, ⟨by kernel_rfl, trivial⟩⟩⟩⟩⟩⟩)
    []
    trivial (by kernel_rfl) (by kernel_rfl) (by kernel_rfl)
def o415 : Ob := (70, [.symS 157, .str [40, 42]], .ret (.bool false))
theorem q415 (a b : Int) (H : Hy a b) : Ans (i0 a b) (s0 a b) o415 := by
  have H0 := H
  exact ans [⟨.len true (.c (.symS 157)), .int .i64 42⟩,
    ⟨.slcStr (.c (.symS 157)) none (some (.c (.int .i64 2))), .str [67, 79]⟩]
    (⟨by kernel_rfl, ⟨by kernel_rfl, trivial⟩⟩)
    []
    trivial (by kernel_rfl) (by kernel_rfl) (by kernel_rfl)
def o416 : Ob := (129, [.symS 157], .ret (.str [67, 79, 78, 83, 84]))
theorem q416 (a b : Int) (H : Hy a b) : Ans (i0 a b) (s0 a b) o416 := by
  show Ans (i0 a b) (s0 a b) (129, [.symS 157], .ret (.str [67, 79, 78, 83, 84]))
  letI := bare (i0 a b) (s0 a b)
  exact word_ob [67, 79, 78, 83, 84] [32, 99, 32, 61, 32, 48, (dg a 7), (dg a 6), (dg a 5), (dg a 4), (dg a 3), (dg a 2), (dg a 1), (dg a 0), 72, 32, 62, 61, 32, 48, (dg b 7), (dg b 6), (dg b 5), (dg b 4), (dg b 3), (dg b 2), (dg b 1), (dg b 0), 72, 59, 32, 69, 78, 68, 32, 77, 46] (by kernel_rfl) (by kernel_rfl) rfl (al_all (by kernel_rfl)) (nal_ok (by kernel_rfl))
def o417 : Ob := (73, [.symS 157], .ret (.tup [.agg [.int .i64 2, .str [67, 79, 78, 83, 84], .int .i64 0, .int .i64 0], .int .i64 5, .int .i64 0]))
theorem q417 (a b : Int) (H : Hy a b) : Ans (i0 a b) (s0 a b) o417 := by
  have H0 := H
  exact ans [⟨.idxStr (.c (.symS 157)) (.c (.int .i64 0)), .int .u8 67⟩]
    (⟨by kernel_rfl, trivial⟩)
    [o416]
    ⟨q416 a b H0, trivial⟩ (by kernel_rfl) (by kernel_rfl) (by kernel_rfl)
def o418 : Ob := (69, [.symS 158, .str [32, 9, 10, 13]], .ret (.symS 159))
theorem q418 (a b : Int) (H : Hy a b) : Ans (i0 a b) (s0 a b) o418 := by
  have H0 := H
  exact ans [⟨.bin .eql (.c (.symS 158)) (.c (.str [])), .bool false⟩,
    ⟨.len true (.c (.symS 158)), .int .i64 37⟩,
    ⟨.idxStr (.c (.symS 158)) (.c (.int .i64 0)), .int .u8 32⟩,
    ⟨.slcStr (.c (.symS 158)) (some (.c (.int .i64 1))) none, .symS 159⟩,
    ⟨.len true (.c (.symS 159)), .int .i64 36⟩,
    ⟨.idxStr (.c (.symS 159)) (.c (.int .i64 0)), .int .u8 99⟩]
    (⟨by kernel_rfl, ⟨by kernel_rfl, ⟨by kernel_rfl, ⟨by kernel_rfl, ⟨by kernel_rfl, ⟨by kernel_rfl, trivial⟩⟩⟩⟩⟩⟩)
    []
    trivial (by kernel_rfl) (by kernel_rfl) (by kernel_rfl)
def o419 : Ob := (70, [.symS 159, .str [40, 42]], .ret (.bool false))
theorem q419 (a b : Int) (H : Hy a b) : Ans (i0 a b) (s0 a b) o419 := by
  have H0 := H
  exact ans [⟨.len true (.c (.symS 159)), .int .i64 36⟩,
    ⟨.slcStr (.c (.symS 159)) none (some (.c (.int .i64 2))), .str [99, 32]⟩]
    (⟨by kernel_rfl, ⟨by kernel_rfl, trivial⟩⟩)
    []
    trivial (by kernel_rfl) (by kernel_rfl) (by kernel_rfl)
def o420 : Ob := (129, [.symS 159], .ret (.str [99]))
theorem q420 (a b : Int) (H : Hy a b) : Ans (i0 a b) (s0 a b) o420 := by
  show Ans (i0 a b) (s0 a b) (129, [.symS 159], .ret (.str [99]))
  letI := bare (i0 a b) (s0 a b)
  exact word_ob [99] [32, 61, 32, 48, (dg a 7), (dg a 6), (dg a 5), (dg a 4), (dg a 3), (dg a 2), (dg a 1), (dg a 0), 72, 32, 62, 61, 32, 48, (dg b 7), (dg b 6), (dg b 5), (dg b 4), (dg b 3), (dg b 2), (dg b 1), (dg b 0), 72, 59, 32, 69, 78, 68, 32, 77, 46] (by kernel_rfl) (by kernel_rfl) rfl (al_all (by kernel_rfl)) (nal_ok (by kernel_rfl))
def o421 : Ob := (73, [.symS 159], .ret (.tup [.agg [.int .i64 1, .str [99], .int .i64 0, .int .i64 0], .int .i64 1, .int .i64 0]))
theorem q421 (a b : Int) (H : Hy a b) : Ans (i0 a b) (s0 a b) o421 := by
  have H0 := H
  exact ans [⟨.idxStr (.c (.symS 159)) (.c (.int .i64 0)), .int .u8 99⟩]
    (⟨by kernel_rfl, trivial⟩)
    [o420]
    ⟨q420 a b H0, trivial⟩ (by kernel_rfl) (by kernel_rfl) (by kernel_rfl)
def o422 : Ob := (69, [.symS 160, .str [32, 9, 10, 13]], .ret (.symS 161))
theorem q422 (a b : Int) (H : Hy a b) : Ans (i0 a b) (s0 a b) o422 := by
  have H0 := H
  exact ans [⟨.bin .eql (.c (.symS 160)) (.c (.str [])), .bool false⟩,
    ⟨.len true (.c (.symS 160)), .int .i64 35⟩,
    ⟨.idxStr (.c (.symS 160)) (.c (.int .i64 0)), .int .u8 32⟩,
    ⟨.slcStr (.c (.symS 160)) (some (.c (.int .i64 1))) none, .symS 161⟩,
    ⟨.len true (.c (.symS 161)), .int .i64 34⟩,
    ⟨.idxStr (.c (.symS 161)) (.c (.int .i64 0)), .int .u8 61⟩]
    (⟨by kernel_rfl, ⟨by kernel_rfl, ⟨by kernel_rfl, ⟨by kernel_rfl, ⟨by kernel_rfl, ⟨by kernel_rfl, trivial⟩⟩⟩⟩⟩⟩)
    []
    trivial (by kernel_rfl) (by kernel_rfl) (by kernel_rfl)
def o423 : Ob := (70, [.symS 161, .str [40, 42]], .ret (.bool false))
theorem q423 (a b : Int) (H : Hy a b) : Ans (i0 a b) (s0 a b) o423 := by
  have H0 := H
  exact ans [⟨.len true (.c (.symS 161)), .int .i64 34⟩,
    ⟨.slcStr (.c (.symS 161)) none (some (.c (.int .i64 2))), .str [61, 32]⟩]
    (⟨by kernel_rfl, ⟨by kernel_rfl, trivial⟩⟩)
    []
    trivial (by kernel_rfl) (by kernel_rfl) (by kernel_rfl)
def o424 : Ob := (129, [.symS 161], .ret (.str []))
theorem q424 (a b : Int) (H : Hy a b) : Ans (i0 a b) (s0 a b) o424 := by
  show Ans (i0 a b) (s0 a b) (129, [.symS 161], .ret (.str []))
  letI := bare (i0 a b) (s0 a b)
  exact word_ob [] [61, 32, 48, (dg a 7), (dg a 6), (dg a 5), (dg a 4), (dg a 3), (dg a 2), (dg a 1), (dg a 0), 72, 32, 62, 61, 32, 48, (dg b 7), (dg b 6), (dg b 5), (dg b 4), (dg b 3), (dg b 2), (dg b 1), (dg b 0), 72, 59, 32, 69, 78, 68, 32, 77, 46] (by kernel_rfl) (by kernel_rfl) rfl (al_all (by kernel_rfl)) (nal_ok (by kernel_rfl))
def o425 : Ob := (73, [.symS 161], .ret (.tup [.agg [.int .i64 6, .str [61], .int .i64 0, .int .i64 0], .int .i64 1, .int .i64 0]))
theorem q425 (a b : Int) (H : Hy a b) : Ans (i0 a b) (s0 a b) o425 := by
  have H0 := H
  exact ans [⟨.idxStr (.c (.symS 161)) (.c (.int .i64 0)), .int .u8 61⟩,
    ⟨.len true (.c (.symS 161)), .int .i64 34⟩,
    ⟨.slcStr (.c (.symS 161)) none (some (.c (.int .i64 2))), .str [61, 32]⟩,
    ⟨.slcStr (.c (.symS 161)) none (some (.c (.int .i64 1))), .str [61]⟩]
    (⟨by kernel_rfl, ⟨by kernel_rfl, ⟨by kernel_rfl, ⟨by kernel_rfl, trivial⟩⟩⟩⟩)
    [o424,
    o27]
    ⟨q424 a b H0, ⟨q27 a b H0, trivial⟩⟩ (by kernel_rfl) (by kernel_rfl) (by kernel_rfl)
def o426 : Ob := (69, [.symS 162, .str [32, 9, 10, 13]], .ret (.symS 163))
theorem q426 (a b : Int) (H : Hy a b) : Ans (i0 a b) (s0 a b) o426 := by
  have H0 := H
  exact ans [⟨.bin .eql (.c (.symS 162)) (.c (.str [])), .bool false⟩,
    ⟨.len true (.c (.symS 162)), .int .i64 33⟩,
    ⟨.idxStr (.c (.symS 162)) (.c (.int .i64 0)), .int .u8 32⟩,
    ⟨.slcStr (.c (.symS 162)) (some (.c (.int .i64 1))) none, .symS 163⟩,
    ⟨.len true (.c (.symS 163)), .int .i64 32⟩,
    ⟨.idxStr (.c (.symS 163)) (.c (.int .i64 0)), .int .u8 48⟩]
    (⟨by kernel_rfl, ⟨by kernel_rfl, ⟨by kernel_rfl, ⟨by kernel_rfl, ⟨by kernel_rfl, ⟨by kernel_rfl, trivial⟩⟩⟩⟩⟩⟩)
    []
    trivial (by kernel_rfl) (by kernel_rfl) (by kernel_rfl)
def o427 : Ob := (70, [.symS 163, .str [40, 42]], .ret (.bool false))
theorem q427 (a b : Int) (H : Hy a b) : Ans (i0 a b) (s0 a b) o427 := by
  have H0 := H
  exact ans [⟨.len true (.c (.symS 163)), .int .i64 32⟩,
    ⟨.slcStr (.c (.symS 163)) none (some (.c (.int .i64 2))), .symS 56⟩,
    ⟨.bin .eql (.c (.symS 56)) (.c (.str [40, 42])), .bool false⟩]
    (⟨by kernel_rfl, ⟨by kernel_rfl, ⟨by kernel_rfl, trivial⟩⟩⟩)
    []
    trivial (by kernel_rfl) (by kernel_rfl) (by kernel_rfl)
def o428 : Ob := (129, [.symS 163], .ret (.symS 0))
theorem q428 (a b : Int) (H : Hy a b) : Ans (i0 a b) (s0 a b) o428 := by
  show Ans (i0 a b) (s0 a b) (129, [.symS 163], .ret (.symS 0))
  letI := bare (i0 a b) (s0 a b)
  exact word_ob (dgs a ++ [72]) [32, 62, 61, 32, 48, (dg b 7), (dg b 6), (dg b 5), (dg b 4), (dg b 3), (dg b 2), (dg b 1), (dg b 0), 72, 59, 32, 69, 78, 68, 32, 77, 46] (by kernel_rfl) (by kernel_rfl) rfl (dgs_alnum a) (nal_ok (by kernel_rfl))
def o429 : Ob := (73, [.symS 163], .ret (.tup [.agg [.int .i64 3, .str [], .sym .i64 50, .int .i64 0], .int .i64 10, .int .i64 0]))
theorem q429 (a b : Int) (H : Hy a b) : Ans (i0 a b) (s0 a b) o429 := by
  have H0 := H
  exact ans [⟨.idxStr (.c (.symS 163)) (.c (.int .i64 0)), .int .u8 48⟩,
    ⟨.len true (.c (.symS 0)), .int .i64 10⟩]
    (⟨by kernel_rfl, ⟨by kernel_rfl, trivial⟩⟩)
    [o428,
    o35]
    ⟨q428 a b H0, ⟨q35 a b H0, trivial⟩⟩ (by kernel_rfl) (by kernel_rfl) (by kernel_rfl)
def o430 : Ob := (69, [.symS 164, .str [32, 9, 10, 13]], .ret (.symS 165))
theorem q430 (a b : Int) (H : Hy a b) : Ans (i0 a b) (s0 a b) o430 := by
  have H0 := H
  exact ans [⟨.bin .eql (.c (.symS 164)) (.c (.str [])), .bool false⟩,
    ⟨.len true (.c (.symS 164)), .int .i64 22⟩,
    ⟨.idxStr (.c (.symS 164)) (.c (.int .i64 0)), .int .u8 32⟩,
    ⟨.slcStr (.c (.symS 164)) (some (.c (.int .i64 1))) none, .symS 165⟩,
    ⟨.len true (.c (.symS 165)), .int .i64 21⟩,
    ⟨.idxStr (.c (.symS 165)) (.c (.int .i64 0)), .int .u8 62⟩]
    (⟨by kernel_rfl, ⟨by kernel_rfl, ⟨by kernel_rfl, ⟨by kernel_rfl, ⟨by kernel_rfl, ⟨by kernel_rfl, trivial⟩⟩⟩⟩⟩⟩)
    []
    trivial (by kernel_rfl) (by kernel_rfl) (by kernel_rfl)
def o431 : Ob := (70, [.symS 165, .str [40, 42]], .ret (.bool false))
theorem q431 (a b : Int) (H : Hy a b) : Ans (i0 a b) (s0 a b) o431 := by
  have H0 := H
  exact ans [⟨.len true (.c (.symS 165)), .int .i64 21⟩,
    ⟨.slcStr (.c (.symS 165)) none (some (.c (.int .i64 2))), .str [62, 61]⟩]
    (⟨by kernel_rfl, ⟨by kernel_rfl, trivial⟩⟩)
    []
    trivial (by kernel_rfl) (by kernel_rfl) (by kernel_rfl)
def o432 : Ob := (129, [.symS 165], .ret (.str []))
theorem q432 (a b : Int) (H : Hy a b) : Ans (i0 a b) (s0 a b) o432 := by
  show Ans (i0 a b) (s0 a b) (129, [.symS 165], .ret (.str []))
  letI := bare (i0 a b) (s0 a b)
  exact word_ob [] [62, 61, 32, 48, (dg b 7), (dg b 6), (dg b 5), (dg b 4), (dg b 3), (dg b 2), (dg b 1), (dg b 0), 72, 59, 32, 69, 78, 68, 32, 77, 46] (by kernel_rfl) (by kernel_rfl) rfl (al_all (by kernel_rfl)) (nal_ok (by kernel_rfl))
def o433 : Ob := (73, [.symS 165], .ret (.tup [.agg [.int .i64 6, .str [62, 61], .int .i64 0, .int .i64 0], .int .i64 2, .int .i64 0]))
theorem q433 (a b : Int) (H : Hy a b) : Ans (i0 a b) (s0 a b) o433 := by
  have H0 := H
  exact ans [⟨.idxStr (.c (.symS 165)) (.c (.int .i64 0)), .int .u8 62⟩,
    ⟨.len true (.c (.symS 165)), .int .i64 21⟩,
    ⟨.slcStr (.c (.symS 165)) none (some (.c (.int .i64 2))), .str [62, 61]⟩]
    (⟨by kernel_rfl, ⟨by kernel_rfl, ⟨by kernel_rfl, trivial⟩⟩⟩)
    [o432]
    ⟨q432 a b H0, trivial⟩ (by kernel_rfl) (by kernel_rfl) (by kernel_rfl)
def o434 : Ob := (22, [.symS 44], .ret (.tup [.sl [] [.agg [.int .i64 2, .str [77, 79, 68, 85, 76, 69], .int .i64 0, .int .i64 0], .agg [.int .i64 1, .str [77], .int .i64 0, .int .i64 7], .agg [.int .i64 6, .str [59], .int .i64 0, .int .i64 8], .agg [.int .i64 2, .str [67, 79, 78, 83, 84], .int .i64 0, .int .i64 10], .agg [.int .i64 1, .str [99], .int .i64 0, .int .i64 16], .agg [.int .i64 6, .str [61], .int .i64 0, .int .i64 18], .agg [.int .i64 3, .str [], .sym .i64 50, .int .i64 20], .agg [.int .i64 6, .str [62, 61], .int .i64 0, .int .i64 31], .agg [.int .i64 3, .str [], .sym .i64 53, .int .i64 34], .agg [.int .i64 6, .str [59], .int .i64 0, .int .i64 44], .agg [.int .i64 2, .str [69, 78, 68], .int .i64 0, .int .i64 46], .agg [.int .i64 1, .str [77], .int .i64 0, .int .i64 50], .agg [.int .i64 6, .str [46], .int .i64 0, .int .i64 51], .agg [.int .i64 0, .str [], .int .i64 0, .int .i64 52]], .int .i64 0, .int .i64 0]))
theorem q434 (a b : Int) (H : Hy a b) : Ans (i0 a b) (s0 a b) o434 := by
  have H0 := H
  exact ans [⟨.len true (.c (.symS 44)), .int .i64 52⟩,
    ⟨.slcStr (.c (.symS 44)) (some (.c (.int .i64 0))) none, .symS 44⟩,
    ⟨.bin .eql (.c (.symS 44)) (.c (.str [])), .bool false⟩,
    ⟨.slcStr (.c (.symS 44)) (some (.c (.int .i64 6))) none, .symS 153⟩,
    ⟨.len true (.c (.symS 154)), .int .i64 45⟩,
    ⟨.bin .eql (.c (.symS 154)) (.c (.str [])), .bool false⟩,
    ⟨.slcStr (.c (.symS 44)) (some (.c (.int .i64 8))) none, .symS 155⟩,
    ⟨.len true (.c (.symS 155)), .int .i64 44⟩,
    ⟨.bin .eql (.c (.symS 155)) (.c (.str [])), .bool false⟩,
    ⟨.slcStr (.c (.symS 44)) (some (.c (.int .i64 9))) none, .symS 156⟩,
    ⟨.len true (.c (.symS 157)), .int .i64 42⟩,
    ⟨.bin .eql (.c (.symS 157)) (.c (.str [])), .bool false⟩,
    ⟨.slcStr (.c (.symS 44)) (some (.c (.int .i64 15))) none, .symS 158⟩,
    ⟨.len true (.c (.symS 159)), .int .i64 36⟩,
    ⟨.bin .eql (.c (.symS 159)) (.c (.str [])), .bool false⟩,
    ⟨.slcStr (.c (.symS 44)) (some (.c (.int .i64 17))) none, .symS 160⟩,
    ⟨.len true (.c (.symS 161)), .int .i64 34⟩,
    ⟨.bin .eql (.c (.symS 161)) (.c (.str [])), .bool false⟩,
    ⟨.slcStr (.c (.symS 44)) (some (.c (.int .i64 19))) none, .symS 162⟩,
    ⟨.len true (.c (.symS 163)), .int .i64 32⟩,
    ⟨.bin .eql (.c (.symS 163)) (.c (.str [])), .bool false⟩,
    ⟨.slcStr (.c (.symS 44)) (some (.c (.int .i64 30))) none, .symS 164⟩,
    ⟨.len true (.c (.symS 165)), .int .i64 21⟩,
    ⟨.bin .eql (.c (.symS 165)) (.c (.str [])), .bool false⟩,
    ⟨.slcStr (.c (.symS 44)) (some (.c (.int .i64 33))) none, .symS 59⟩,
    ⟨.len true (.c (.symS 60)), .int .i64 18⟩,
    ⟨.bin .eql (.c (.symS 60)) (.c (.str [])), .bool false⟩,
    ⟨.slcStr (.c (.symS 44)) (some (.c (.int .i64 44))) none, .str [59, 32, 69, 78, 68, 32, 77, 46]⟩,
    ⟨.slcStr (.c (.symS 44)) (some (.c (.int .i64 45))) none, .str [32, 69, 78, 68, 32, 77, 46]⟩,
    ⟨.slcStr (.c (.symS 44)) (some (.c (.int .i64 49))) none, .str [32, 77, 46]⟩,
    ⟨.slcStr (.c (.symS 44)) (some (.c (.int .i64 51))) none, .str [46]⟩,
    ⟨.slcStr (.c (.symS 44)) (some (.c (.int .i64 52))) none, .str []⟩]
    (⟨by kernel_rfl, ⟨by kernel_rfl, ⟨by kernel_rfl, ⟨by kernel_rfl, ⟨by kernel_rfl, ⟨by kernel_rfl, ⟨by kernel_rfl, ⟨by kernel_rfl, ⟨by kernel_rfl, ⟨by kernel_rfl, ⟨by kernel_rfl, ⟨by kernel_rfl, ⟨by kernel_rfl, ⟨by kernel_rfl, ⟨by kernel_rfl, ⟨by kernel_rfl, ⟨by kernel_rfl, ⟨by kernel_rfl, ⟨by kernel_rfl, ⟨by kernel_rfl, ⟨by kernel_rfl, ⟨by kernel_rfl, ⟨by kernel_rfl, ⟨by kernel_rfl, ⟨by kernel_rfl, ⟨by kernel_rfl, ⟨by kernel_rfl, ⟨by kernel_rfl, ⟨by kernel_rfl, ⟨by kernel_rfl, ⟨by kernel_rfl, ⟨by kernel_rfl, trivial⟩⟩⟩⟩⟩⟩⟩⟩⟩⟩⟩⟩⟩⟩⟩⟩⟩⟩⟩⟩⟩⟩⟩⟩⟩⟩⟩⟩⟩⟩⟩⟩)
    [o402,
    o403,
    o405,
    o406,
    o407,
    o409,
    o410,
    o411,
    o413,
    o414,
    o415,
    o417,
    o418,
    o419,
    o421,
    o422,
    o423,
    o425,
    o426,
    o427,
    o429,
    o430,
    o431,
    o433,
    o42,
    o43,
    o49,
    o14,
    o50]
    ⟨q402 a b H0, ⟨q403 a b H0, ⟨q405 a b H0, ⟨q406 a b H0, ⟨q407 a b H0, ⟨q409 a b H0, ⟨q410 a b H0, ⟨q411 a b H0, ⟨q413 a b H0, ⟨q414 a b H0, ⟨q415 a b H0, ⟨q417 a b H0, ⟨q418 a b H0, ⟨q419 a b H0, ⟨q421 a b H0, ⟨q422 a b H0, ⟨q423 a b H0, ⟨q425 a b H0, ⟨q426 a b H0, ⟨q427 a b H0, ⟨q429 a b H0, ⟨q430 a b H0, ⟨q431 a b H0, ⟨q433 a b H0, ⟨q42 a b H0, ⟨q43 a b H0, ⟨q49 a b H0, ⟨q14 a b H0, ⟨q50 a b H0, trivial⟩⟩⟩⟩⟩⟩⟩⟩⟩⟩⟩⟩⟩⟩⟩⟩⟩⟩⟩⟩⟩⟩⟩⟩⟩⟩⟩⟩⟩ (by kernel_rfl) (by kernel_rfl) (by kernel_rfl)
def o435 : Ob := (170, [.int .i64 29, .sym .i64 50, .sym .i64 53], .ret (.int .i64 0))
theorem q435 (a b : Int) (H : Hy a b) (hc : a < b) : Ans (i0 a b) (s0 a b) o435 := by
  have H0 := H
  have hc0 := hc
  obtain ⟨h1, h2, h3, h4⟩ := H
  have ea := q0_lt a
  have fa : qn a 0 = (a % 4294967296).toNat := rfl
  have eb := q0_lt b
  have fb : qn b 0 = (b % 4294967296).toNat := rfl
  exact ans [⟨.convI .i32 (.c (.sym .i64 50)), .sym .i32 0⟩,
    ⟨.convI .i32 (.c (.sym .i64 53)), .sym .i32 1⟩,
    ⟨.bin .geq (.c (.sym .i64 50)) (.c (.sym .i64 53)), .bool false⟩]
    (⟨(Eq.trans (b := some (.int .i32 (IntKind.i32.wrap (a : Int)))) (by kernel_rfl) (f_int (p := (IntKind.i32.wrap (a : Int))) (q := (a : Int)) (by simp only [IntKind.wrap_i64, IntKind.wrap_i32, IntKind.wrap_u64, IntKind.wrap_u32, Int.tdiv_one, Int.tmod_one] <;> omega))), ⟨(Eq.trans (b := some (.int .i32 (IntKind.i32.wrap (b : Int)))) (by kernel_rfl) (f_int (p := (IntKind.i32.wrap (b : Int))) (q := (b : Int)) (by simp only [IntKind.wrap_i64, IntKind.wrap_i32, IntKind.wrap_u64, IntKind.wrap_u32, Int.tdiv_one, Int.tmod_one] <;> omega))), ⟨(Eq.trans (b := some (.bool (decide ((a : Int) ≥ (b : Int))))) (by kernel_rfl) (f_bool (q := false) (decide_eq_false (by omega)))), trivial⟩⟩⟩)
    []
    trivial (by kernel_rfl) (by kernel_rfl) (by kernel_rfl)
def o436 : Ob := (170, [.int .i64 29, .sym .i64 50, .sym .i64 53], .ret (.int .i64 1))
theorem q436 (a b : Int) (H : Hy a b) (hc : a = b) : Ans (i0 a b) (s0 a b) o436 := by
  have H0 := H
  have hc0 := hc
  obtain ⟨h1, h2, h3, h4⟩ := H
  have ea := q0_lt a
  have fa : qn a 0 = (a % 4294967296).toNat := rfl
  have eb := q0_lt b
  have fb : qn b 0 = (b % 4294967296).toNat := rfl
  exact ans [⟨.convI .i32 (.c (.sym .i64 50)), .sym .i32 0⟩,
    ⟨.convI .i32 (.c (.sym .i64 53)), .sym .i32 1⟩,
    ⟨.bin .geq (.c (.sym .i64 50)) (.c (.sym .i64 53)), .bool true⟩]
    (⟨(Eq.trans (b := some (.int .i32 (IntKind.i32.wrap (a : Int)))) (by kernel_rfl) (f_int (p := (IntKind.i32.wrap (a : Int))) (q := (a : Int)) (by simp only [IntKind.wrap_i64, IntKind.wrap_i32, IntKind.wrap_u64, IntKind.wrap_u32, Int.tdiv_one, Int.tmod_one] <;> omega))), ⟨(Eq.trans (b := some (.int .i32 (IntKind.i32.wrap (b : Int)))) (by kernel_rfl) (f_int (p := (IntKind.i32.wrap (b : Int))) (q := (b : Int)) (by simp only [IntKind.wrap_i64, IntKind.wrap_i32, IntKind.wrap_u64, IntKind.wrap_u32, Int.tdiv_one, Int.tmod_one] <;> omega))), ⟨(Eq.trans (b := some (.bool (decide ((a : Int) ≥ (b : Int))))) (by kernel_rfl) (f_bool (q := true) (decide_eq_true (by omega)))), trivial⟩⟩⟩)
    []
    trivial (by kernel_rfl) (by kernel_rfl) (by kernel_rfl)
def o437 : Ob := (170, [.int .i64 29, .sym .i64 50, .sym .i64 53], .ret (.int .i64 1))
theorem q437 (a b : Int) (H : Hy a b) (hc : b < a) : Ans (i0 a b) (s0 a b) o437 := by
  have H0 := H
  have hc0 := hc
  obtain ⟨h1, h2, h3, h4⟩ := H
  have ea := q0_lt a
  have fa : qn a 0 = (a % 4294967296).toNat := rfl
  have eb := q0_lt b
  have fb : qn b 0 = (b % 4294967296).toNat := rfl
  exact ans [⟨.convI .i32 (.c (.sym .i64 50)), .sym .i32 0⟩,
    ⟨.convI .i32 (.c (.sym .i64 53)), .sym .i32 1⟩,
    ⟨.bin .geq (.c (.sym .i64 50)) (.c (.sym .i64 53)), .bool true⟩]
    (⟨(Eq.trans (b := some (.int .i32 (IntKind.i32.wrap (a : Int)))) (by kernel_rfl) (f_int (p := (IntKind.i32.wrap (a : Int))) (q := (a : Int)) (by simp only [IntKind.wrap_i64, IntKind.wrap_i32, IntKind.wrap_u64, IntKind.wrap_u32, Int.tdiv_one, Int.tmod_one] <;> omega))), ⟨(Eq.trans (b := some (.int .i32 (IntKind.i32.wrap (b : Int)))) (by kernel_rfl) (f_int (p := (IntKind.i32.wrap (b : Int))) (q := (b : Int)) (by simp only [IntKind.wrap_i64, IntKind.wrap_i32, IntKind.wrap_u64, IntKind.wrap_u32, Int.tdiv_one, Int.tmod_one] <;> omega))), ⟨(Eq.trans (b := some (.bool (decide ((a : Int) ≥ (b : Int))))) (by kernel_rfl) (f_bool (q := true) (decide_eq_true (by omega)))), trivial⟩⟩⟩)
    []
    trivial (by kernel_rfl) (by kernel_rfl) (by kernel_rfl)
def o438 : Ob := (170, [.int .i64 29, .sym .i64 50, .sym .i64 53], .ret (.sym .i64 62))
theorem q438 (a b : Int) (H : Hy a b) : Ans (i0 a b) (s0 a b) o438 := by
  show Ans (i0 a b) (s0 a b) (170, [.int .i64 29, .sym .i64 50, .sym .i64 53], .ret (.sym .i64 62))
  rcases Int.lt_trichotomy a b with h | h | h
  · exact (q435 a b H h).den (congrArg (Vl.int .i64) ((by (first | rfl | omega | (simp only [tr] <;> split <;> omega) | (simp only [tr] <;> omega)) : (0 : Int) = ((tr (a ≥ b)) : Int))))
  · exact (q436 a b H h).den (congrArg (Vl.int .i64) ((by (first | rfl | omega | (simp only [tr] <;> split <;> omega) | (simp only [tr] <;> omega)) : (1 : Int) = ((tr (a ≥ b)) : Int))))
  · exact (q437 a b H h).den (congrArg (Vl.int .i64) ((by (first | rfl | omega | (simp only [tr] <;> split <;> omega) | (simp only [tr] <;> omega)) : (1 : Int) = ((tr (a ≥ b)) : Int))))
def o439 : Ob := (5, [.symS 44, .nils], .ret (.tup [.agg [.str [77], .bool false, .nils, .nils, .sl [] [.agg [.int .i64 0, .int .i64 0, .int .i64 0, .int .i64 0, .nils, .int .i64 0, .int .i64 0], .agg [.int .i64 1, .int .i64 0, .int .i64 0, .int .i64 0, .nils, .int .i64 4, .int .i64 0], .agg [.int .i64 2, .int .i64 0, .int .i64 0, .int .i64 0, .nils, .int .i64 1, .int .i64 0], .agg [.int .i64 3, .int .i64 0, .int .i64 0, .int .i64 0, .nils, .int .i64 1, .int .i64 0], .agg [.int .i64 4, .int .i64 0, .int .i64 0, .int .i64 0, .nils, .int .i64 1, .int .i64 0], .agg [.int .i64 5, .int .i64 0, .int .i64 0, .int .i64 0, .nils, .int .i64 4, .int .i64 0], .agg [.int .i64 6, .int .i64 0, .int .i64 0, .int .i64 0, .nils, .int .i64 4, .int .i64 0], .agg [.int .i64 7, .int .i64 0, .int .i64 0, .int .i64 0, .nils, .int .i64 0, .int .i64 0]], .nils, .sl [] [.agg [.str [99], .int .i64 2, .sym .i64 62, .str [], .bool false]], .nils, .nils, .nils], .int .i64 0, .int .i64 0]))
theorem q439 (a b : Int) (H : Hy a b) : Ans (i0 a b) (s0 a b) o439 := by
  have H0 := H
  exact ans []
    (trivial)
    [o434,
    o54,
    o357,
    o438]
    ⟨q434 a b H0, ⟨q54 a b H0, ⟨q357 a b H0, ⟨q438 a b H0, trivial⟩⟩⟩⟩ (by kernel_rfl) (by kernel_rfl) (by kernel_rfl)
def fxL : List Fact := [⟨.bin .add (.c (.str [77, 79, 68, 85, 76, 69, 32, 77, 59, 32, 67, 79, 78, 83, 84, 32, 99, 32, 61, 32])) (.c (.symS 0)), .symS 192⟩,
  ⟨.bin .add (.c (.symS 192)) (.c (.str [32])), .symS 193⟩,
  ⟨.bin .add (.c (.symS 193)) (.c (.str [43])), .symS 194⟩,
  ⟨.bin .add (.c (.symS 194)) (.c (.str [32])), .symS 195⟩,
  ⟨.bin .add (.c (.symS 195)) (.c (.symS 1)), .symS 196⟩,
  ⟨.bin .add (.c (.symS 196)) (.c (.str [59, 32, 69, 78, 68, 32, 77, 46])), .symS 34⟩,
  ⟨.bin .add (.c (.symS 193)) (.c (.str [45])), .symS 197⟩,
  ⟨.bin .add (.c (.symS 197)) (.c (.str [32])), .symS 198⟩,
  ⟨.bin .add (.c (.symS 198)) (.c (.symS 1)), .symS 199⟩,
  ⟨.bin .add (.c (.symS 199)) (.c (.str [59, 32, 69, 78, 68, 32, 77, 46])), .symS 35⟩,
  ⟨.bin .add (.c (.symS 193)) (.c (.str [42])), .symS 200⟩,
  ⟨.bin .add (.c (.symS 200)) (.c (.str [32])), .symS 201⟩,
  ⟨.bin .add (.c (.symS 201)) (.c (.symS 1)), .symS 202⟩,
  ⟨.bin .add (.c (.symS 202)) (.c (.str [59, 32, 69, 78, 68, 32, 77, 46])), .symS 36⟩,
  ⟨.bin .add (.c (.symS 193)) (.c (.str [68, 73, 86])), .symS 203⟩,
  ⟨.bin .add (.c (.symS 203)) (.c (.str [32])), .symS 204⟩,
  ⟨.bin .add (.c (.symS 204)) (.c (.symS 1)), .symS 205⟩,
  ⟨.bin .add (.c (.symS 205)) (.c (.str [59, 32, 69, 78, 68, 32, 77, 46])), .symS 37⟩,
  ⟨.bin .add (.c (.symS 193)) (.c (.str [77, 79, 68])), .symS 206⟩,
  ⟨.bin .add (.c (.symS 206)) (.c (.str [32])), .symS 207⟩,
  ⟨.bin .add (.c (.symS 207)) (.c (.symS 1)), .symS 208⟩,
  ⟨.bin .add (.c (.symS 208)) (.c (.str [59, 32, 69, 78, 68, 32, 77, 46])), .symS 38⟩,
  ⟨.bin .add (.c (.symS 193)) (.c (.str [61])), .symS 209⟩,
  ⟨.bin .add (.c (.symS 209)) (.c (.str [32])), .symS 210⟩,
  ⟨.bin .add (.c (.symS 210)) (.c (.symS 1)), .symS 211⟩,
  ⟨.bin .add (.c (.symS 211)) (.c (.str [59, 32, 69, 78, 68, 32, 77, 46])), .symS 39⟩,
  ⟨.bin .add (.c (.symS 193)) (.c (.str [35])), .symS 212⟩,
  ⟨.bin .add (.c (.symS 212)) (.c (.str [32])), .symS 213⟩,
  ⟨.bin .add (.c (.symS 213)) (.c (.symS 1)), .symS 214⟩,
  ⟨.bin .add (.c (.symS 214)) (.c (.str [59, 32, 69, 78, 68, 32, 77, 46])), .symS 40⟩,
  ⟨.bin .add (.c (.symS 193)) (.c (.str [60])), .symS 215⟩,
  ⟨.bin .add (.c (.symS 215)) (.c (.str [32])), .symS 216⟩,
  ⟨.bin .add (.c (.symS 216)) (.c (.symS 1)), .symS 217⟩,
  ⟨.bin .add (.c (.symS 217)) (.c (.str [59, 32, 69, 78, 68, 32, 77, 46])), .symS 41⟩,
  ⟨.bin .add (.c (.symS 193)) (.c (.str [60, 61])), .symS 218⟩,
  ⟨.bin .add (.c (.symS 218)) (.c (.str [32])), .symS 219⟩,
  ⟨.bin .add (.c (.symS 219)) (.c (.symS 1)), .symS 220⟩,
  ⟨.bin .add (.c (.symS 220)) (.c (.str [59, 32, 69, 78, 68, 32, 77, 46])), .symS 42⟩,
  ⟨.bin .add (.c (.symS 193)) (.c (.str [62])), .symS 221⟩,
  ⟨.bin .add (.c (.symS 221)) (.c (.str [32])), .symS 222⟩,
  ⟨.bin .add (.c (.symS 222)) (.c (.symS 1)), .symS 223⟩,
  ⟨.bin .add (.c (.symS 223)) (.c (.str [59, 32, 69, 78, 68, 32, 77, 46])), .symS 43⟩,
  ⟨.bin .add (.c (.symS 193)) (.c (.str [62, 61])), .symS 224⟩,
  ⟨.bin .add (.c (.symS 224)) (.c (.str [32])), .symS 225⟩,
  ⟨.bin .add (.c (.symS 225)) (.c (.symS 1)), .symS 226⟩,
  ⟨.bin .add (.c (.symS 226)) (.c (.str [59, 32, 69, 78, 68, 32, 77, 46])), .symS 44⟩]
theorem fxL_ok (a b : Int) : okAll (i0 a b) (s0 a b) fxL := ⟨by kernel_rfl, ⟨by kernel_rfl, ⟨by kernel_rfl, ⟨by kernel_rfl, ⟨by kernel_rfl, ⟨by kernel_rfl, ⟨by kernel_rfl, ⟨by kernel_rfl, ⟨by kernel_rfl, ⟨by kernel_rfl, ⟨by kernel_rfl, ⟨by kernel_rfl, ⟨by kernel_rfl, ⟨by kernel_rfl, ⟨by kernel_rfl, ⟨by kernel_rfl, ⟨by kernel_rfl, ⟨by kernel_rfl, ⟨by kernel_rfl, ⟨by kernel_rfl, ⟨by kernel_rfl, ⟨by kernel_rfl, ⟨by kernel_rfl, ⟨by kernel_rfl, ⟨by kernel_rfl, ⟨by kernel_rfl, ⟨by kernel_rfl, ⟨by kernel_rfl, ⟨by kernel_rfl, ⟨by kernel_rfl, ⟨by kernel_rfl, ⟨by kernel_rfl, ⟨by kernel_rfl, ⟨by kernel_rfl, ⟨by kernel_rfl, ⟨by kernel_rfl, ⟨by kernel_rfl, ⟨by kernel_rfl, ⟨by kernel_rfl, ⟨by kernel_rfl, ⟨by kernel_rfl, ⟨by kernel_rfl, ⟨by kernel_rfl, ⟨by kernel_rfl, ⟨by kernel_rfl, ⟨by kernel_rfl, trivial⟩⟩⟩⟩⟩⟩⟩⟩⟩⟩⟩⟩⟩⟩⟩⟩⟩⟩⟩⟩⟩⟩⟩⟩⟩⟩⟩⟩⟩⟩⟩⟩⟩⟩⟩⟩⟩⟩⟩⟩⟩⟩⟩⟩⟩⟩
theorem shown_q (a b : Int) (H : Hy a b) : Ans (i0 a b) (s0 a b) (4, [], .ret (.bool true)) := shown_k _ _
def o440 : Ob := (3, [.sym .i32 0, .sym .i32 1], .ret (.bool true))
theorem q440 (a b : Int) (H : Hy a b) (hc : b ≤ 0 ∧ a = b) : Ans (i0 a b) (s0 a b) o440 := by
  have H0 := H
  have hc0 := hc
  obtain ⟨h1, h2, h3, h4⟩ := H
  obtain ⟨c0, c1⟩ := hc
  have ea := q0_lt a
  have fa : qn a 0 = (a % 4294967296).toNat := rfl
  have eb := q0_lt b
  have fb : qn b 0 = (b % 4294967296).toNat := rfl
  exact ans (fxL ++ [⟨.convI .i64 (.c (.sym .i32 0)), .sym .i64 50⟩,
    ⟨.convI .i64 (.c (.sym .i32 1)), .sym .i64 53⟩,
    ⟨.mxn true (.c (.int .i64 1)) (.c (.sym .i64 53)), .int .i64 1⟩,
    ⟨.bin .quo (.c (.sym .i64 50)) (.c (.int .i64 1)), .sym .i64 79⟩,
    ⟨.bin .rem (.c (.sym .i64 50)) (.c (.int .i64 1)), .int .i64 0⟩,
    ⟨.bin .eql (.c (.sym .i32 0)) (.c (.sym .i32 1)), .bool true⟩,
    ⟨.bin .neq (.c (.sym .i32 0)) (.c (.sym .i32 1)), .bool false⟩,
    ⟨.bin .lss (.c (.sym .i32 0)) (.c (.sym .i32 1)), .bool false⟩,
    ⟨.bin .leq (.c (.sym .i32 0)) (.c (.sym .i32 1)), .bool true⟩,
    ⟨.bin .gtr (.c (.sym .i32 0)) (.c (.sym .i32 1)), .bool false⟩,
    ⟨.bin .geq (.c (.sym .i32 0)) (.c (.sym .i32 1)), .bool true⟩,
    ⟨.bin .add (.c (.sym .i32 0)) (.c (.sym .i32 1)), .sym .i32 65⟩,
    ⟨.convI .i64 (.c (.sym .i32 65)), .sym .i64 66⟩,
    ⟨.bin .neq (.c (.sym .i64 54)) (.c (.sym .i64 66)), .bool false⟩,
    ⟨.bin .sub (.c (.sym .i32 0)) (.c (.sym .i32 1)), .int .i32 0⟩,
    ⟨.bin .neq (.c (.sym .i64 55)) (.c (.int .i64 0)), .bool false⟩,
    ⟨.bin .mul (.c (.sym .i32 0)) (.c (.sym .i32 1)), .sym .i32 69⟩,
    ⟨.convI .i64 (.c (.sym .i32 69)), .sym .i64 70⟩,
    ⟨.bin .neq (.c (.sym .i64 56)) (.c (.sym .i64 70)), .bool false⟩,
    ⟨.bin .leq (.c (.sym .i32 1)) (.c (.int .i32 0)), .bool true⟩,
    ⟨.bin .neq (.c (.sym .i64 57)) (.c (.int .i64 1)), .bool false⟩,
    ⟨.bin .neq (.c (.sym .i64 58)) (.c (.int .i64 0)), .bool false⟩,
    ⟨.bin .neq (.c (.sym .i64 59)) (.c (.int .i64 0)), .bool false⟩,
    ⟨.bin .neq (.c (.sym .i64 60)) (.c (.int .i64 1)), .bool false⟩,
    ⟨.bin .neq (.c (.sym .i64 61)) (.c (.int .i64 0)), .bool false⟩,
    ⟨.bin .neq (.c (.sym .i64 62)) (.c (.int .i64 1)), .bool false⟩])
    (okAll_app (fxL_ok a b) (⟨(Eq.trans (b := some (.int .i64 (IntKind.i64.wrap (a : Int)))) (by kernel_rfl) (f_int (p := (IntKind.i64.wrap (a : Int))) (q := (a : Int)) (by simp only [IntKind.wrap_i64, IntKind.wrap_i32, IntKind.wrap_u64, IntKind.wrap_u32, Int.tdiv_one, Int.tmod_one] <;> omega))), ⟨(Eq.trans (b := some (.int .i64 (IntKind.i64.wrap (b : Int)))) (by kernel_rfl) (f_int (p := (IntKind.i64.wrap (b : Int))) (q := (b : Int)) (by simp only [IntKind.wrap_i64, IntKind.wrap_i32, IntKind.wrap_u64, IntKind.wrap_u32, Int.tdiv_one, Int.tmod_one] <;> omega))), ⟨(Eq.trans (b := some (.int .i64 (if (b : Int) > (1 : Int) then (b : Int) else (1 : Int)))) (by kernel_rfl) (f_int (p := (if (b : Int) > (1 : Int) then (b : Int) else (1 : Int))) (q := (1 : Int)) (by split <;> omega))), ⟨(Eq.trans (b := some (.int .i64 (IntKind.i64.wrap (Int.tdiv (a : Int) (1 : Int))))) (by kernel_rfl) (f_int (p := (IntKind.i64.wrap (Int.tdiv (a : Int) (1 : Int)))) (q := ((Int.tdiv a 1) : Int)) (by simp only [IntKind.wrap_i64, IntKind.wrap_i32, IntKind.wrap_u64, IntKind.wrap_u32, Int.tdiv_one, Int.tmod_one]; omega))), ⟨(Eq.trans (b := some (.int .i64 (Int.tmod (a : Int) (1 : Int)))) (by kernel_rfl) (f_int (p := (Int.tmod (a : Int) (1 : Int))) (q := (0 : Int)) (by simp only [Int.tmod_one]))), ⟨(Eq.trans (b := some (.bool (((a : Int) == (b : Int))))) (by kernel_rfl) (f_bool (q := true) (beq_iff_eq.2 (by omega)))), ⟨(Eq.trans (b := some (.bool (((a : Int) != (b : Int))))) (by kernel_rfl) (f_bool (q := false) (bne_eq_false_iff_eq.2 (by omega)))), ⟨(Eq.trans (b := some (.bool (decide ((a : Int) < (b : Int))))) (by kernel_rfl) (f_bool (q := false) (decide_eq_false (by omega)))), ⟨(Eq.trans (b := some (.bool (decide ((a : Int) ≤ (b : Int))))) (by kernel_rfl) (f_bool (q := true) (decide_eq_true (by omega)))), ⟨(Eq.trans (b := some (.bool (decide ((a : Int) > (b : Int))))) (by kernel_rfl) (f_bool (q := false) (decide_eq_false (by omega)))), ⟨(Eq.trans (b := some (.bool (decide ((a : Int) ≥ (b : Int))))) (by kernel_rfl) (f_bool (q := true) (decide_eq_true (by omega)))), ⟨(Eq.trans (b := some (.int .i32 (IntKind.i32.wrap ((a : Int) + (b : Int))))) (by kernel_rfl) (f_int (p := (IntKind.i32.wrap ((a : Int) + (b : Int)))) (q := ((IntKind.i32.wrap (a + b)) : Int)) (rfl))), ⟨(Eq.trans (b := some (.int .i64 (IntKind.i64.wrap ((IntKind.i32.wrap (a + b)) : Int)))) (by kernel_rfl) (f_int (p := (IntKind.i64.wrap ((IntKind.i32.wrap (a + b)) : Int))) (q := ((IntKind.i32.wrap (a + b)) : Int)) (by simp only [IntKind.wrap_i64, IntKind.wrap_i32, IntKind.wrap_u64, IntKind.wrap_u32, Int.tdiv_one, Int.tmod_one] <;> omega))), ⟨(Eq.trans (b := some (.bool ((((IntKind.i32.wrap (a + b)) : Int) != ((IntKind.i32.wrap (a + b)) : Int))))) (by kernel_rfl) (f_bool (q := false) (bne_eq_false_iff_eq.2 rfl))), ⟨(Eq.trans (b := some (.int .i32 (IntKind.i32.wrap ((a : Int) - (b : Int))))) (by kernel_rfl) (f_int (p := (IntKind.i32.wrap ((a : Int) - (b : Int)))) (q := (0 : Int)) (by simp only [IntKind.wrap_i64, IntKind.wrap_i32, IntKind.wrap_u64, IntKind.wrap_u32, Int.tdiv_one, Int.tmod_one] <;> omega))), ⟨(Eq.trans (b := some (.bool ((((IntKind.i32.wrap (a - b)) : Int) != (0 : Int))))) (by kernel_rfl) (f_bool (q := false) (bne_eq_false_iff_eq.2 (by simp only [IntKind.wrap_i64, IntKind.wrap_i32, IntKind.wrap_u64, IntKind.wrap_u32, Int.tdiv_one, Int.tmod_one] <;> omega)))), ⟨(Eq.trans (b := some (.int .i32 (IntKind.i32.wrap ((a : Int) * (b : Int))))) (by kernel_rfl) (f_int (p := (IntKind.i32.wrap ((a : Int) * (b : Int)))) (q := ((IntKind.i32.wrap (a * b)) : Int)) (rfl))), ⟨(Eq.trans (b := some (.int .i64 (IntKind.i64.wrap ((IntKind.i32.wrap (a * b)) : Int)))) (by kernel_rfl) (f_int (p := (IntKind.i64.wrap ((IntKind.i32.wrap (a * b)) : Int))) (q := ((IntKind.i32.wrap (a * b)) : Int)) (by simp only [IntKind.wrap_i64, IntKind.wrap_i32, IntKind.wrap_u64, IntKind.wrap_u32, Int.tdiv_one, Int.tmod_one] <;> omega))), ⟨(Eq.trans (b := some (.bool ((((IntKind.i32.wrap (a * b)) : Int) != ((IntKind.i32.wrap (a * b)) : Int))))) (by kernel_rfl) (f_bool (q := false) (bne_eq_false_iff_eq.2 rfl))), ⟨(Eq.trans (b := some (.bool (decide ((b : Int) ≤ (0 : Int))))) (by kernel_rfl) (f_bool (q := true) (decide_eq_true (by omega)))), ⟨(Eq.trans (b := some (.bool ((((tr (a = b)) : Int) != (1 : Int))))) (by kernel_rfl) (f_bool (q := false) (by (try simp only [tr, IntKind.wrap_i64, IntKind.wrap_i32]) <;> (repeat' split) <;> simp only [decide_eq_true_eq, decide_eq_false_iff_not, beq_iff_eq, beq_eq_false_iff_ne, bne_iff_ne, bne_eq_false_iff_eq, ne_eq] <;> first | omega | (subst_vars; simp_all; done) | (simp_all; done)))), ⟨(Eq.trans (b := some (.bool ((((tr (a ≠ b)) : Int) != (0 : Int))))) (by kernel_rfl) (f_bool (q := false) (by (try simp only [tr, IntKind.wrap_i64, IntKind.wrap_i32]) <;> (repeat' split) <;> simp only [decide_eq_true_eq, decide_eq_false_iff_not, beq_iff_eq, beq_eq_false_iff_ne, bne_iff_ne, bne_eq_false_iff_eq, ne_eq] <;> first | omega | (subst_vars; simp_all; done) | (simp_all; done)))), ⟨(Eq.trans (b := some (.bool ((((tr (a < b)) : Int) != (0 : Int))))) (by kernel_rfl) (f_bool (q := false) (by (try simp only [tr, IntKind.wrap_i64, IntKind.wrap_i32]) <;> (repeat' split) <;> simp only [decide_eq_true_eq, decide_eq_false_iff_not, beq_iff_eq, beq_eq_false_iff_ne, bne_iff_ne, bne_eq_false_iff_eq, ne_eq] <;> first | omega | (subst_vars; simp_all; done) | (simp_all; done)))), ⟨(Eq.trans (b := some (.bool ((((tr (a ≤ b)) : Int) != (1 : Int))))) (by kernel_rfl) (f_bool (q := false) (by (try simp only [tr, IntKind.wrap_i64, IntKind.wrap_i32]) <;> (repeat' split) <;> simp only [decide_eq_true_eq, decide_eq_false_iff_not, beq_iff_eq, beq_eq_false_iff_ne, bne_iff_ne, bne_eq_false_iff_eq, ne_eq] <;> first | omega | (subst_vars; simp_all; done) | (simp_all; done)))), ⟨(Eq.trans (b := some (.bool ((((tr (a > b)) : Int) != (0 : Int))))) (by kernel_rfl) (f_bool (q := false) (by (try simp only [tr, IntKind.wrap_i64, IntKind.wrap_i32]) <;> (repeat' split) <;> simp only [decide_eq_true_eq, decide_eq_false_iff_not, beq_iff_eq, beq_eq_false_iff_ne, bne_iff_ne, bne_eq_false_iff_eq, ne_eq] <;> first | omega | (subst_vars; simp_all; done) | (simp_all; done)))), ⟨(Eq.trans (b := some (.bool ((((tr (a ≥ b)) : Int) != (1 : Int))))) (by kernel_rfl) (f_bool (q := false) (by (try simp only [tr, IntKind.wrap_i64, IntKind.wrap_i32]) <;> (repeat' split) <;> simp only [decide_eq_true_eq, decide_eq_false_iff_not, beq_iff_eq, beq_eq_false_iff_ne, bne_iff_ne, bne_eq_false_iff_eq, ne_eq] <;> first | omega | (subst_vars; simp_all; done) | (simp_all; done)))), trivial⟩⟩⟩⟩⟩⟩⟩⟩⟩⟩⟩⟩⟩⟩⟩⟩⟩⟩⟩⟩⟩⟩⟩⟩⟩⟩))
    [(4, [], .ret (.bool true)),
    o1,
    o2,
    o60,
    o97,
    o134,
    o171,
    o205,
    o243,
    o282,
    o321,
    o362,
    o401,
    o439]
    ⟨shown_q a b H0, ⟨q1 a b H0, ⟨q2 a b H0, ⟨q60 a b H0, ⟨q97 a b H0, ⟨q134 a b H0, ⟨q171 a b H0 hc0.1, ⟨q205 a b H0 hc0.1, ⟨q243 a b H0, ⟨q282 a b H0, ⟨q321 a b H0, ⟨q362 a b H0, ⟨q401 a b H0, ⟨q439 a b H0, trivial⟩⟩⟩⟩⟩⟩⟩⟩⟩⟩⟩⟩⟩⟩ (by kernel_rfl) (by kernel_rfl) (by kernel_rfl)
end Go.Proofs.Tryz.Vc
