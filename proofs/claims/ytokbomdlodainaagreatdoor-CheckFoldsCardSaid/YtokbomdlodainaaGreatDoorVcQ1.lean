/- Answers of calls. -/
import Derived.Test.YtokbomdlodainaaGreatDoorVcQ0
set_option linter.all false
namespace Go.Proofs.Tryz.Vc
open Go Go.Proofs Go.Ve
set_option maxRecDepth 100000
set_option maxHeartbeats 4000000
def o59 : Ob := (170, [.int .i64 13, .sym .i64 50, .sym .i64 53], .ret (.sym .i64 54))
theorem q59 (a b : Int) (H : Hy a b) : Ans (i0 a b) (s0 a b) o59 := by
  show Ans (i0 a b) (s0 a b) (170, [.int .i64 13, .sym .i64 50, .sym .i64 53], .ret (.sym .i64 54))
  exact (q58 a b H trivial).den (congrArg (Vl.int .i64) ((by (first | rfl | omega | (simp only [tr] <;> split <;> omega) | (simp only [tr] <;> omega)) : ((IntKind.i32.wrap (a + b)) : Int) = ((IntKind.i32.wrap (a + b)) : Int))))
def o60 : Ob := (5, [.symS 34, .nils], .ret (.tup [.agg [.str [77], .bool false, .nils, .nils, .sl [] [.agg [.int .i64 0, .int .i64 0, .int .i64 0, .int .i64 0, .nils, .int .i64 0, .int .i64 0], .agg [.int .i64 1, .int .i64 0, .int .i64 0, .int .i64 0, .nils, .int .i64 4, .int .i64 0], .agg [.int .i64 2, .int .i64 0, .int .i64 0, .int .i64 0, .nils, .int .i64 1, .int .i64 0], .agg [.int .i64 3, .int .i64 0, .int .i64 0, .int .i64 0, .nils, .int .i64 1, .int .i64 0], .agg [.int .i64 4, .int .i64 0, .int .i64 0, .int .i64 0, .nils, .int .i64 1, .int .i64 0], .agg [.int .i64 5, .int .i64 0, .int .i64 0, .int .i64 0, .nils, .int .i64 4, .int .i64 0], .agg [.int .i64 6, .int .i64 0, .int .i64 0, .int .i64 0, .nils, .int .i64 4, .int .i64 0], .agg [.int .i64 7, .int .i64 0, .int .i64 0, .int .i64 0, .nils, .int .i64 0, .int .i64 0]], .nils, .sl [] [.agg [.str [99], .int .i64 1, .sym .i64 54, .str [], .bool false]], .nils, .nils, .nils], .int .i64 0, .int .i64 0]))
theorem q60 (a b : Int) (H : Hy a b) : Ans (i0 a b) (s0 a b) o60 := by
  have H0 := H
  exact ans []
    (trivial)
    [o51,
    o54,
    o57,
    o59]
    ⟨q51 a b H0, ⟨q54 a b H0, ⟨q57 a b H0, ⟨q59 a b H0, trivial⟩⟩⟩⟩ (by kernel_rfl) (by kernel_rfl) (by kernel_rfl)
def o61 : Ob := (69, [.symS 35, .str [32, 9, 10, 13]], .ret (.symS 35))
theorem q61 (a b : Int) (H : Hy a b) : Ans (i0 a b) (s0 a b) o61 := by
  have H0 := H
  exact ans [⟨.bin .eql (.c (.symS 35)) (.c (.str [])), .bool false⟩,
    ⟨.len true (.c (.symS 35)), .int .i64 51⟩,
    ⟨.idxStr (.c (.symS 35)) (.c (.int .i64 0)), .int .u8 77⟩]
    (⟨by kernel_rfl, ⟨by kernel_rfl, ⟨by kernel_rfl, trivial⟩⟩⟩)
    []
    trivial (by kernel_rfl) (by kernel_rfl) (by kernel_rfl)
def o62 : Ob := (70, [.symS 35, .str [40, 42]], .ret (.bool false))
theorem q62 (a b : Int) (H : Hy a b) : Ans (i0 a b) (s0 a b) o62 := by
  have H0 := H
  exact ans [⟨.len true (.c (.symS 35)), .int .i64 51⟩,
    ⟨.slcStr (.c (.symS 35)) none (some (.c (.int .i64 2))), .str [77, 79]⟩]
    (⟨by kernel_rfl, ⟨by kernel_rfl, trivial⟩⟩)
    []
    trivial (by kernel_rfl) (by kernel_rfl) (by kernel_rfl)
def o63 : Ob := (129, [.symS 35], .ret (.str [77, 79, 68, 85, 76, 69]))
theorem q63 (a b : Int) (H : Hy a b) : Ans (i0 a b) (s0 a b) o63 := by
  show Ans (i0 a b) (s0 a b) (129, [.symS 35], .ret (.str [77, 79, 68, 85, 76, 69]))
  letI := bare (i0 a b) (s0 a b)
  exact word_ob [77, 79, 68, 85, 76, 69] [32, 77, 59, 32, 67, 79, 78, 83, 84, 32, 99, 32, 61, 32, 48, (dg a 7), (dg a 6), (dg a 5), (dg a 4), (dg a 3), (dg a 2), (dg a 1), (dg a 0), 72, 32, 45, 32, 48, (dg b 7), (dg b 6), (dg b 5), (dg b 4), (dg b 3), (dg b 2), (dg b 1), (dg b 0), 72, 59, 32, 69, 78, 68, 32, 77, 46] (by kernel_rfl) (by kernel_rfl) rfl (al_all (by kernel_rfl)) (nal_ok (by kernel_rfl))
def o64 : Ob := (73, [.symS 35], .ret (.tup [.agg [.int .i64 2, .str [77, 79, 68, 85, 76, 69], .int .i64 0, .int .i64 0], .int .i64 6, .int .i64 0]))
theorem q64 (a b : Int) (H : Hy a b) : Ans (i0 a b) (s0 a b) o64 := by
  have H0 := H
  exact ans [⟨.idxStr (.c (.symS 35)) (.c (.int .i64 0)), .int .u8 77⟩]
    (⟨by kernel_rfl, trivial⟩)
    [o63]
    ⟨q63 a b H0, trivial⟩ (by kernel_rfl) (by kernel_rfl) (by kernel_rfl)
def o65 : Ob := (69, [.symS 62, .str [32, 9, 10, 13]], .ret (.symS 63))
theorem q65 (a b : Int) (H : Hy a b) : Ans (i0 a b) (s0 a b) o65 := by
  have H0 := H
  exact ans [⟨.bin .eql (.c (.symS 62)) (.c (.str [])), .bool false⟩,
    ⟨.len true (.c (.symS 62)), .int .i64 45⟩,
    ⟨.idxStr (.c (.symS 62)) (.c (.int .i64 0)), .int .u8 32⟩,
    ⟨.slcStr (.c (.symS 62)) (some (.c (.int .i64 1))) none, .symS 63⟩,
    ⟨.len true (.c (.symS 63)), .int .i64 44⟩,
    ⟨.idxStr (.c (.symS 63)) (.c (.int .i64 0)), .int .u8 77⟩]
    (⟨by kernel_rfl, ⟨by kernel_rfl, ⟨by kernel_rfl, ⟨by kernel_rfl, ⟨by kernel_rfl, ⟨by kernel_rfl, trivial⟩⟩⟩⟩⟩⟩)
    []
    trivial (by kernel_rfl) (by kernel_rfl) (by kernel_rfl)
def o66 : Ob := (70, [.symS 63, .str [40, 42]], .ret (.bool false))
theorem q66 (a b : Int) (H : Hy a b) : Ans (i0 a b) (s0 a b) o66 := by
  have H0 := H
  exact ans [⟨.len true (.c (.symS 63)), .int .i64 44⟩,
    ⟨.slcStr (.c (.symS 63)) none (some (.c (.int .i64 2))), .str [77, 59]⟩]
    (⟨by kernel_rfl, ⟨by kernel_rfl, trivial⟩⟩)
    []
    trivial (by kernel_rfl) (by kernel_rfl) (by kernel_rfl)
def o67 : Ob := (129, [.symS 63], .ret (.str [77]))
theorem q67 (a b : Int) (H : Hy a b) : Ans (i0 a b) (s0 a b) o67 := by
  show Ans (i0 a b) (s0 a b) (129, [.symS 63], .ret (.str [77]))
  letI := bare (i0 a b) (s0 a b)
  exact word_ob [77] [59, 32, 67, 79, 78, 83, 84, 32, 99, 32, 61, 32, 48, (dg a 7), (dg a 6), (dg a 5), (dg a 4), (dg a 3), (dg a 2), (dg a 1), (dg a 0), 72, 32, 45, 32, 48, (dg b 7), (dg b 6), (dg b 5), (dg b 4), (dg b 3), (dg b 2), (dg b 1), (dg b 0), 72, 59, 32, 69, 78, 68, 32, 77, 46] (by kernel_rfl) (by kernel_rfl) rfl (al_all (by kernel_rfl)) (nal_ok (by kernel_rfl))
def o68 : Ob := (73, [.symS 63], .ret (.tup [.agg [.int .i64 1, .str [77], .int .i64 0, .int .i64 0], .int .i64 1, .int .i64 0]))
theorem q68 (a b : Int) (H : Hy a b) : Ans (i0 a b) (s0 a b) o68 := by
  have H0 := H
  exact ans [⟨.idxStr (.c (.symS 63)) (.c (.int .i64 0)), .int .u8 77⟩]
    (⟨by kernel_rfl, trivial⟩)
    [o67]
    ⟨q67 a b H0, trivial⟩ (by kernel_rfl) (by kernel_rfl) (by kernel_rfl)
def o69 : Ob := (69, [.symS 64, .str [32, 9, 10, 13]], .ret (.symS 64))
theorem q69 (a b : Int) (H : Hy a b) : Ans (i0 a b) (s0 a b) o69 := by
  have H0 := H
  exact ans [⟨.bin .eql (.c (.symS 64)) (.c (.str [])), .bool false⟩,
    ⟨.len true (.c (.symS 64)), .int .i64 43⟩,
    ⟨.idxStr (.c (.symS 64)) (.c (.int .i64 0)), .int .u8 59⟩]
    (⟨by kernel_rfl, ⟨by kernel_rfl, ⟨by kernel_rfl, trivial⟩⟩⟩)
    []
    trivial (by kernel_rfl) (by kernel_rfl) (by kernel_rfl)
def o70 : Ob := (70, [.symS 64, .str [40, 42]], .ret (.bool false))
theorem q70 (a b : Int) (H : Hy a b) : Ans (i0 a b) (s0 a b) o70 := by
  have H0 := H
  exact ans [⟨.len true (.c (.symS 64)), .int .i64 43⟩,
    ⟨.slcStr (.c (.symS 64)) none (some (.c (.int .i64 2))), .str [59, 32]⟩]
    (⟨by kernel_rfl, ⟨by kernel_rfl, trivial⟩⟩)
    []
    trivial (by kernel_rfl) (by kernel_rfl) (by kernel_rfl)
def o71 : Ob := (129, [.symS 64], .ret (.str []))
theorem q71 (a b : Int) (H : Hy a b) : Ans (i0 a b) (s0 a b) o71 := by
  show Ans (i0 a b) (s0 a b) (129, [.symS 64], .ret (.str []))
  letI := bare (i0 a b) (s0 a b)
  exact word_ob [] [59, 32, 67, 79, 78, 83, 84, 32, 99, 32, 61, 32, 48, (dg a 7), (dg a 6), (dg a 5), (dg a 4), (dg a 3), (dg a 2), (dg a 1), (dg a 0), 72, 32, 45, 32, 48, (dg b 7), (dg b 6), (dg b 5), (dg b 4), (dg b 3), (dg b 2), (dg b 1), (dg b 0), 72, 59, 32, 69, 78, 68, 32, 77, 46] (by kernel_rfl) (by kernel_rfl) rfl (al_all (by kernel_rfl)) (nal_ok (by kernel_rfl))
def o72 : Ob := (73, [.symS 64], .ret (.tup [.agg [.int .i64 6, .str [59], .int .i64 0, .int .i64 0], .int .i64 1, .int .i64 0]))
theorem q72 (a b : Int) (H : Hy a b) : Ans (i0 a b) (s0 a b) o72 := by
  have H0 := H
  exact ans [⟨.idxStr (.c (.symS 64)) (.c (.int .i64 0)), .int .u8 59⟩,
    ⟨.len true (.c (.symS 64)), .int .i64 43⟩,
    ⟨.slcStr (.c (.symS 64)) none (some (.c (.int .i64 2))), .str [59, 32]⟩,
    ⟨.slcStr (.c (.symS 64)) none (some (.c (.int .i64 1))), .str [59]⟩]
    (⟨by kernel_rfl, ⟨by kernel_rfl, ⟨by kernel_rfl, ⟨by kernel_rfl, trivial⟩⟩⟩⟩)
    [o71,
    o14]
    ⟨q71 a b H0, ⟨q14 a b H0, trivial⟩⟩ (by kernel_rfl) (by kernel_rfl) (by kernel_rfl)
def o73 : Ob := (69, [.symS 65, .str [32, 9, 10, 13]], .ret (.symS 66))
theorem q73 (a b : Int) (H : Hy a b) : Ans (i0 a b) (s0 a b) o73 := by
  have H0 := H
  exact ans [⟨.bin .eql (.c (.symS 65)) (.c (.str [])), .bool false⟩,
    ⟨.len true (.c (.symS 65)), .int .i64 42⟩,
    ⟨.idxStr (.c (.symS 65)) (.c (.int .i64 0)), .int .u8 32⟩,
    ⟨.slcStr (.c (.symS 65)) (some (.c (.int .i64 1))) none, .symS 66⟩,
    ⟨.len true (.c (.symS 66)), .int .i64 41⟩,
    ⟨.idxStr (.c (.symS 66)) (.c (.int .i64 0)), .int .u8 67⟩]
    (⟨by kernel_rfl, ⟨by kernel_rfl, ⟨by kernel_rfl, ⟨by kernel_rfl, ⟨by kernel_rfl, ⟨by kernel_rfl, trivial⟩⟩⟩⟩⟩⟩)
    []
    trivial (by kernel_rfl) (by kernel_rfl) (by kernel_rfl)
def o74 : Ob := (70, [.symS 66, .str [40, 42]], .ret (.bool false))
theorem q74 (a b : Int) (H : Hy a b) : Ans (i0 a b) (s0 a b) o74 := by
  have H0 := H
  exact ans [⟨.len true (.c (.symS 66)), .int .i64 41⟩,
    ⟨.slcStr (.c (.symS 66)) none (some (.c (.int .i64 2))), .str [67, 79]⟩]
    (⟨by kernel_rfl, ⟨by kernel_rfl, trivial⟩⟩)
    []
    trivial (by kernel_rfl) (by kernel_rfl) (by kernel_rfl)
def o75 : Ob := (129, [.symS 66], .ret (.str [67, 79, 78, 83, 84]))
theorem q75 (a b : Int) (H : Hy a b) : Ans (i0 a b) (s0 a b) o75 := by
  show Ans (i0 a b) (s0 a b) (129, [.symS 66], .ret (.str [67, 79, 78, 83, 84]))
  letI := bare (i0 a b) (s0 a b)
  exact word_ob [67, 79, 78, 83, 84] [32, 99, 32, 61, 32, 48, (dg a 7), (dg a 6), (dg a 5), (dg a 4), (dg a 3), (dg a 2), (dg a 1), (dg a 0), 72, 32, 45, 32, 48, (dg b 7), (dg b 6), (dg b 5), (dg b 4), (dg b 3), (dg b 2), (dg b 1), (dg b 0), 72, 59, 32, 69, 78, 68, 32, 77, 46] (by kernel_rfl) (by kernel_rfl) rfl (al_all (by kernel_rfl)) (nal_ok (by kernel_rfl))
def o76 : Ob := (73, [.symS 66], .ret (.tup [.agg [.int .i64 2, .str [67, 79, 78, 83, 84], .int .i64 0, .int .i64 0], .int .i64 5, .int .i64 0]))
theorem q76 (a b : Int) (H : Hy a b) : Ans (i0 a b) (s0 a b) o76 := by
  have H0 := H
  exact ans [⟨.idxStr (.c (.symS 66)) (.c (.int .i64 0)), .int .u8 67⟩]
    (⟨by kernel_rfl, trivial⟩)
    [o75]
    ⟨q75 a b H0, trivial⟩ (by kernel_rfl) (by kernel_rfl) (by kernel_rfl)
def o77 : Ob := (69, [.symS 67, .str [32, 9, 10, 13]], .ret (.symS 68))
theorem q77 (a b : Int) (H : Hy a b) : Ans (i0 a b) (s0 a b) o77 := by
  have H0 := H
  exact ans [⟨.bin .eql (.c (.symS 67)) (.c (.str [])), .bool false⟩,
    ⟨.len true (.c (.symS 67)), .int .i64 36⟩,
    ⟨.idxStr (.c (.symS 67)) (.c (.int .i64 0)), .int .u8 32⟩,
    ⟨.slcStr (.c (.symS 67)) (some (.c (.int .i64 1))) none, .symS 68⟩,
    ⟨.len true (.c (.symS 68)), .int .i64 35⟩,
    ⟨.idxStr (.c (.symS 68)) (.c (.int .i64 0)), .int .u8 99⟩]
    (⟨by kernel_rfl, ⟨by kernel_rfl, ⟨by kernel_rfl, ⟨by kernel_rfl, ⟨by kernel_rfl, ⟨by kernel_rfl, trivial⟩⟩⟩⟩⟩⟩)
    []
    trivial (by kernel_rfl) (by kernel_rfl) (by kernel_rfl)
def o78 : Ob := (70, [.symS 68, .str [40, 42]], .ret (.bool false))
theorem q78 (a b : Int) (H : Hy a b) : Ans (i0 a b) (s0 a b) o78 := by
  have H0 := H
  exact ans [⟨.len true (.c (.symS 68)), .int .i64 35⟩,
    ⟨.slcStr (.c (.symS 68)) none (some (.c (.int .i64 2))), .str [99, 32]⟩]
    (⟨by kernel_rfl, ⟨by kernel_rfl, trivial⟩⟩)
    []
    trivial (by kernel_rfl) (by kernel_rfl) (by kernel_rfl)
def o79 : Ob := (129, [.symS 68], .ret (.str [99]))
theorem q79 (a b : Int) (H : Hy a b) : Ans (i0 a b) (s0 a b) o79 := by
  show Ans (i0 a b) (s0 a b) (129, [.symS 68], .ret (.str [99]))
  letI := bare (i0 a b) (s0 a b)
  exact word_ob [99] [32, 61, 32, 48, (dg a 7), (dg a 6), (dg a 5), (dg a 4), (dg a 3), (dg a 2), (dg a 1), (dg a 0), 72, 32, 45, 32, 48, (dg b 7), (dg b 6), (dg b 5), (dg b 4), (dg b 3), (dg b 2), (dg b 1), (dg b 0), 72, 59, 32, 69, 78, 68, 32, 77, 46] (by kernel_rfl) (by kernel_rfl) rfl (al_all (by kernel_rfl)) (nal_ok (by kernel_rfl))
def o80 : Ob := (73, [.symS 68], .ret (.tup [.agg [.int .i64 1, .str [99], .int .i64 0, .int .i64 0], .int .i64 1, .int .i64 0]))
theorem q80 (a b : Int) (H : Hy a b) : Ans (i0 a b) (s0 a b) o80 := by
  have H0 := H
  exact ans [⟨.idxStr (.c (.symS 68)) (.c (.int .i64 0)), .int .u8 99⟩]
    (⟨by kernel_rfl, trivial⟩)
    [o79]
    ⟨q79 a b H0, trivial⟩ (by kernel_rfl) (by kernel_rfl) (by kernel_rfl)
def o81 : Ob := (69, [.symS 69, .str [32, 9, 10, 13]], .ret (.symS 70))
theorem q81 (a b : Int) (H : Hy a b) : Ans (i0 a b) (s0 a b) o81 := by
  have H0 := H
  exact ans [⟨.bin .eql (.c (.symS 69)) (.c (.str [])), .bool false⟩,
    ⟨.len true (.c (.symS 69)), .int .i64 34⟩,
    ⟨.idxStr (.c (.symS 69)) (.c (.int .i64 0)), .int .u8 32⟩,
    ⟨.slcStr (.c (.symS 69)) (some (.c (.int .i64 1))) none, .symS 70⟩,
    ⟨.len true (.c (.symS 70)), .int .i64 33⟩,
    ⟨.idxStr (.c (.symS 70)) (.c (.int .i64 0)), .int .u8 61⟩]
    (⟨by kernel_rfl, ⟨by kernel_rfl, ⟨by kernel_rfl, ⟨by kernel_rfl, ⟨by kernel_rfl, ⟨by kernel_rfl, trivial⟩⟩⟩⟩⟩⟩)
    []
    trivial (by kernel_rfl) (by kernel_rfl) (by kernel_rfl)
def o82 : Ob := (70, [.symS 70, .str [40, 42]], .ret (.bool false))
theorem q82 (a b : Int) (H : Hy a b) : Ans (i0 a b) (s0 a b) o82 := by
  have H0 := H
  exact ans [⟨.len true (.c (.symS 70)), .int .i64 33⟩,
    ⟨.slcStr (.c (.symS 70)) none (some (.c (.int .i64 2))), .str [61, 32]⟩]
    (⟨by kernel_rfl, ⟨by kernel_rfl, trivial⟩⟩)
    []
    trivial (by kernel_rfl) (by kernel_rfl) (by kernel_rfl)
def o83 : Ob := (129, [.symS 70], .ret (.str []))
theorem q83 (a b : Int) (H : Hy a b) : Ans (i0 a b) (s0 a b) o83 := by
  show Ans (i0 a b) (s0 a b) (129, [.symS 70], .ret (.str []))
  letI := bare (i0 a b) (s0 a b)
  exact word_ob [] [61, 32, 48, (dg a 7), (dg a 6), (dg a 5), (dg a 4), (dg a 3), (dg a 2), (dg a 1), (dg a 0), 72, 32, 45, 32, 48, (dg b 7), (dg b 6), (dg b 5), (dg b 4), (dg b 3), (dg b 2), (dg b 1), (dg b 0), 72, 59, 32, 69, 78, 68, 32, 77, 46] (by kernel_rfl) (by kernel_rfl) rfl (al_all (by kernel_rfl)) (nal_ok (by kernel_rfl))
def o84 : Ob := (73, [.symS 70], .ret (.tup [.agg [.int .i64 6, .str [61], .int .i64 0, .int .i64 0], .int .i64 1, .int .i64 0]))
theorem q84 (a b : Int) (H : Hy a b) : Ans (i0 a b) (s0 a b) o84 := by
  have H0 := H
  exact ans [⟨.idxStr (.c (.symS 70)) (.c (.int .i64 0)), .int .u8 61⟩,
    ⟨.len true (.c (.symS 70)), .int .i64 33⟩,
    ⟨.slcStr (.c (.symS 70)) none (some (.c (.int .i64 2))), .str [61, 32]⟩,
    ⟨.slcStr (.c (.symS 70)) none (some (.c (.int .i64 1))), .str [61]⟩]
    (⟨by kernel_rfl, ⟨by kernel_rfl, ⟨by kernel_rfl, ⟨by kernel_rfl, trivial⟩⟩⟩⟩)
    [o83,
    o27]
    ⟨q83 a b H0, ⟨q27 a b H0, trivial⟩⟩ (by kernel_rfl) (by kernel_rfl) (by kernel_rfl)
def o85 : Ob := (69, [.symS 71, .str [32, 9, 10, 13]], .ret (.symS 72))
theorem q85 (a b : Int) (H : Hy a b) : Ans (i0 a b) (s0 a b) o85 := by
  have H0 := H
  exact ans [⟨.bin .eql (.c (.symS 71)) (.c (.str [])), .bool false⟩,
    ⟨.len true (.c (.symS 71)), .int .i64 32⟩,
    ⟨.idxStr (.c (.symS 71)) (.c (.int .i64 0)), .int .u8 32⟩,
    ⟨.slcStr (.c (.symS 71)) (some (.c (.int .i64 1))) none, .symS 72⟩,
    ⟨.len true (.c (.symS 72)), .int .i64 31⟩,
    ⟨.idxStr (.c (.symS 72)) (.c (.int .i64 0)), .int .u8 48⟩]
    (⟨by kernel_rfl, ⟨by kernel_rfl, ⟨by kernel_rfl, ⟨by kernel_rfl, ⟨by kernel_rfl, ⟨by kernel_rfl, trivial⟩⟩⟩⟩⟩⟩)
    []
    trivial (by kernel_rfl) (by kernel_rfl) (by kernel_rfl)
def o86 : Ob := (70, [.symS 72, .str [40, 42]], .ret (.bool false))
theorem q86 (a b : Int) (H : Hy a b) : Ans (i0 a b) (s0 a b) o86 := by
  have H0 := H
  exact ans [⟨.len true (.c (.symS 72)), .int .i64 31⟩,
    ⟨.slcStr (.c (.symS 72)) none (some (.c (.int .i64 2))), .symS 56⟩,
    ⟨.bin .eql (.c (.symS 56)) (.c (.str [40, 42])), .bool false⟩]
    (⟨by kernel_rfl, ⟨by kernel_rfl, ⟨by kernel_rfl, trivial⟩⟩⟩)
    []
    trivial (by kernel_rfl) (by kernel_rfl) (by kernel_rfl)
def o87 : Ob := (129, [.symS 72], .ret (.symS 0))
theorem q87 (a b : Int) (H : Hy a b) : Ans (i0 a b) (s0 a b) o87 := by
  show Ans (i0 a b) (s0 a b) (129, [.symS 72], .ret (.symS 0))
  letI := bare (i0 a b) (s0 a b)
  exact word_ob (dgs a ++ [72]) [32, 45, 32, 48, (dg b 7), (dg b 6), (dg b 5), (dg b 4), (dg b 3), (dg b 2), (dg b 1), (dg b 0), 72, 59, 32, 69, 78, 68, 32, 77, 46] (by kernel_rfl) (by kernel_rfl) rfl (dgs_alnum a) (nal_ok (by kernel_rfl))
def o88 : Ob := (73, [.symS 72], .ret (.tup [.agg [.int .i64 3, .str [], .sym .i64 50, .int .i64 0], .int .i64 10, .int .i64 0]))
theorem q88 (a b : Int) (H : Hy a b) : Ans (i0 a b) (s0 a b) o88 := by
  have H0 := H
  exact ans [⟨.idxStr (.c (.symS 72)) (.c (.int .i64 0)), .int .u8 48⟩,
    ⟨.len true (.c (.symS 0)), .int .i64 10⟩]
    (⟨by kernel_rfl, ⟨by kernel_rfl, trivial⟩⟩)
    [o87,
    o35]
    ⟨q87 a b H0, ⟨q35 a b H0, trivial⟩⟩ (by kernel_rfl) (by kernel_rfl) (by kernel_rfl)
def o89 : Ob := (69, [.symS 73, .str [32, 9, 10, 13]], .ret (.symS 74))
theorem q89 (a b : Int) (H : Hy a b) : Ans (i0 a b) (s0 a b) o89 := by
  have H0 := H
  exact ans [⟨.bin .eql (.c (.symS 73)) (.c (.str [])), .bool false⟩,
    ⟨.len true (.c (.symS 73)), .int .i64 21⟩,
    ⟨.idxStr (.c (.symS 73)) (.c (.int .i64 0)), .int .u8 32⟩,
    ⟨.slcStr (.c (.symS 73)) (some (.c (.int .i64 1))) none, .symS 74⟩,
    ⟨.len true (.c (.symS 74)), .int .i64 20⟩,
    ⟨.idxStr (.c (.symS 74)) (.c (.int .i64 0)), .int .u8 45⟩]
    (⟨by kernel_rfl, ⟨by kernel_rfl, ⟨by kernel_rfl, ⟨by kernel_rfl, ⟨by kernel_rfl, ⟨by kernel_rfl, trivial⟩⟩⟩⟩⟩⟩)
    []
    trivial (by kernel_rfl) (by kernel_rfl) (by kernel_rfl)
def o90 : Ob := (70, [.symS 74, .str [40, 42]], .ret (.bool false))
theorem q90 (a b : Int) (H : Hy a b) : Ans (i0 a b) (s0 a b) o90 := by
  have H0 := H
  exact ans [⟨.len true (.c (.symS 74)), .int .i64 20⟩,
    ⟨.slcStr (.c (.symS 74)) none (some (.c (.int .i64 2))), .str [45, 32]⟩]
    (⟨by kernel_rfl, ⟨by kernel_rfl, trivial⟩⟩)
    []
    trivial (by kernel_rfl) (by kernel_rfl) (by kernel_rfl)
def o91 : Ob := (129, [.symS 74], .ret (.str []))
theorem q91 (a b : Int) (H : Hy a b) : Ans (i0 a b) (s0 a b) o91 := by
  show Ans (i0 a b) (s0 a b) (129, [.symS 74], .ret (.str []))
  letI := bare (i0 a b) (s0 a b)
  exact word_ob [] [45, 32, 48, (dg b 7), (dg b 6), (dg b 5), (dg b 4), (dg b 3), (dg b 2), (dg b 1), (dg b 0), 72, 59, 32, 69, 78, 68, 32, 77, 46] (by kernel_rfl) (by kernel_rfl) rfl (al_all (by kernel_rfl)) (nal_ok (by kernel_rfl))
def o92 : Ob := (224, [.str [43, 45, 42, 47, 126, 38, 46, 44, 59, 124, 40, 41, 91, 93, 123, 125, 58, 94, 61, 35, 60, 62], .int .u8 45], .ret (.int .i64 1))
theorem q92 (a b : Int) (H : Hy a b) : Ans (i0 a b) (s0 a b) o92 := by
  show Ans (i0 a b) (s0 a b) (224, [.str [43, 45, 42, 47, 126, 38, 46, 44, 59, 124, 40, 41, 91, 93, 123, 125, 58, 94, 61, 35, 60, 62], .int .u8 45], .ret (.int .i64 1))
  letI := bare (i0 a b) (s0 a b)
  exact index_ob _ _ _ (by kernel_rfl)
def o93 : Ob := (73, [.symS 74], .ret (.tup [.agg [.int .i64 6, .str [45], .int .i64 0, .int .i64 0], .int .i64 1, .int .i64 0]))
theorem q93 (a b : Int) (H : Hy a b) : Ans (i0 a b) (s0 a b) o93 := by
  have H0 := H
  exact ans [⟨.idxStr (.c (.symS 74)) (.c (.int .i64 0)), .int .u8 45⟩,
    ⟨.len true (.c (.symS 74)), .int .i64 20⟩,
    ⟨.slcStr (.c (.symS 74)) none (some (.c (.int .i64 2))), .str [45, 32]⟩,
    ⟨.slcStr (.c (.symS 74)) none (some (.c (.int .i64 1))), .str [45]⟩]
    (⟨by kernel_rfl, ⟨by kernel_rfl, ⟨by kernel_rfl, ⟨by kernel_rfl, trivial⟩⟩⟩⟩)
    [o91,
    o92]
    ⟨q91 a b H0, ⟨q92 a b H0, trivial⟩⟩ (by kernel_rfl) (by kernel_rfl) (by kernel_rfl)
def o94 : Ob := (22, [.symS 35], .ret (.tup [.sl [] [.agg [.int .i64 2, .str [77, 79, 68, 85, 76, 69], .int .i64 0, .int .i64 0], .agg [.int .i64 1, .str [77], .int .i64 0, .int .i64 7], .agg [.int .i64 6, .str [59], .int .i64 0, .int .i64 8], .agg [.int .i64 2, .str [67, 79, 78, 83, 84], .int .i64 0, .int .i64 10], .agg [.int .i64 1, .str [99], .int .i64 0, .int .i64 16], .agg [.int .i64 6, .str [61], .int .i64 0, .int .i64 18], .agg [.int .i64 3, .str [], .sym .i64 50, .int .i64 20], .agg [.int .i64 6, .str [45], .int .i64 0, .int .i64 31], .agg [.int .i64 3, .str [], .sym .i64 53, .int .i64 33], .agg [.int .i64 6, .str [59], .int .i64 0, .int .i64 43], .agg [.int .i64 2, .str [69, 78, 68], .int .i64 0, .int .i64 45], .agg [.int .i64 1, .str [77], .int .i64 0, .int .i64 49], .agg [.int .i64 6, .str [46], .int .i64 0, .int .i64 50], .agg [.int .i64 0, .str [], .int .i64 0, .int .i64 51]], .int .i64 0, .int .i64 0]))
theorem q94 (a b : Int) (H : Hy a b) : Ans (i0 a b) (s0 a b) o94 := by
  have H0 := H
  exact ans [⟨.len true (.c (.symS 35)), .int .i64 51⟩,
    ⟨.slcStr (.c (.symS 35)) (some (.c (.int .i64 0))) none, .symS 35⟩,
    ⟨.bin .eql (.c (.symS 35)) (.c (.str [])), .bool false⟩,
    ⟨.slcStr (.c (.symS 35)) (some (.c (.int .i64 6))) none, .symS 62⟩,
    ⟨.len true (.c (.symS 63)), .int .i64 44⟩,
    ⟨.bin .eql (.c (.symS 63)) (.c (.str [])), .bool false⟩,
    ⟨.slcStr (.c (.symS 35)) (some (.c (.int .i64 8))) none, .symS 64⟩,
    ⟨.len true (.c (.symS 64)), .int .i64 43⟩,
    ⟨.bin .eql (.c (.symS 64)) (.c (.str [])), .bool false⟩,
    ⟨.slcStr (.c (.symS 35)) (some (.c (.int .i64 9))) none, .symS 65⟩,
    ⟨.len true (.c (.symS 66)), .int .i64 41⟩,
    ⟨.bin .eql (.c (.symS 66)) (.c (.str [])), .bool false⟩,
    ⟨.slcStr (.c (.symS 35)) (some (.c (.int .i64 15))) none, .symS 67⟩,
    ⟨.len true (.c (.symS 68)), .int .i64 35⟩,
    ⟨.bin .eql (.c (.symS 68)) (.c (.str [])), .bool false⟩,
    ⟨.slcStr (.c (.symS 35)) (some (.c (.int .i64 17))) none, .symS 69⟩,
    ⟨.len true (.c (.symS 70)), .int .i64 33⟩,
    ⟨.bin .eql (.c (.symS 70)) (.c (.str [])), .bool false⟩,
    ⟨.slcStr (.c (.symS 35)) (some (.c (.int .i64 19))) none, .symS 71⟩,
    ⟨.len true (.c (.symS 72)), .int .i64 31⟩,
    ⟨.bin .eql (.c (.symS 72)) (.c (.str [])), .bool false⟩,
    ⟨.slcStr (.c (.symS 35)) (some (.c (.int .i64 30))) none, .symS 73⟩,
    ⟨.len true (.c (.symS 74)), .int .i64 20⟩,
    ⟨.bin .eql (.c (.symS 74)) (.c (.str [])), .bool false⟩,
    ⟨.slcStr (.c (.symS 35)) (some (.c (.int .i64 32))) none, .symS 59⟩,
    ⟨.len true (.c (.symS 60)), .int .i64 18⟩,
    ⟨.bin .eql (.c (.symS 60)) (.c (.str [])), .bool false⟩,
    ⟨.slcStr (.c (.symS 35)) (some (.c (.int .i64 43))) none, .str [59, 32, 69, 78, 68, 32, 77, 46]⟩,
    ⟨.slcStr (.c (.symS 35)) (some (.c (.int .i64 44))) none, .str [32, 69, 78, 68, 32, 77, 46]⟩,
    ⟨.slcStr (.c (.symS 35)) (some (.c (.int .i64 48))) none, .str [32, 77, 46]⟩,
    ⟨.slcStr (.c (.symS 35)) (some (.c (.int .i64 50))) none, .str [46]⟩,
    ⟨.slcStr (.c (.symS 35)) (some (.c (.int .i64 51))) none, .str []⟩]
    (⟨by kernel_rfl, ⟨by kernel_rfl, ⟨by kernel_rfl, ⟨by kernel_rfl, ⟨by kernel_rfl, ⟨by kernel_rfl, ⟨by kernel_rfl, ⟨by kernel_rfl, ⟨by kernel_rfl, ⟨by kernel_rfl, ⟨by kernel_rfl, ⟨by kernel_rfl, ⟨by kernel_rfl, ⟨by kernel_rfl, ⟨by kernel_rfl, ⟨by kernel_rfl, ⟨by kernel_rfl, ⟨by kernel_rfl, ⟨by kernel_rfl, ⟨by kernel_rfl, ⟨by kernel_rfl, ⟨by kernel_rfl, ⟨by kernel_rfl, ⟨by kernel_rfl, ⟨by kernel_rfl, ⟨by kernel_rfl, ⟨by kernel_rfl, ⟨by kernel_rfl, ⟨by kernel_rfl, ⟨by kernel_rfl, ⟨by kernel_rfl, ⟨by kernel_rfl, trivial⟩⟩⟩⟩⟩⟩⟩⟩⟩⟩⟩⟩⟩⟩⟩⟩⟩⟩⟩⟩⟩⟩⟩⟩⟩⟩⟩⟩⟩⟩⟩⟩)
    [o61,
    o62,
    o64,
    o65,
    o66,
    o68,
    o69,
    o70,
    o72,
    o73,
    o74,
    o76,
    o77,
    o78,
    o80,
    o81,
    o82,
    o84,
    o85,
    o86,
    o88,
    o89,
    o90,
    o93,
    o42,
    o43,
    o49,
    o14,
    o50]
    ⟨q61 a b H0, ⟨q62 a b H0, ⟨q64 a b H0, ⟨q65 a b H0, ⟨q66 a b H0, ⟨q68 a b H0, ⟨q69 a b H0, ⟨q70 a b H0, ⟨q72 a b H0, ⟨q73 a b H0, ⟨q74 a b H0, ⟨q76 a b H0, ⟨q77 a b H0, ⟨q78 a b H0, ⟨q80 a b H0, ⟨q81 a b H0, ⟨q82 a b H0, ⟨q84 a b H0, ⟨q85 a b H0, ⟨q86 a b H0, ⟨q88 a b H0, ⟨q89 a b H0, ⟨q90 a b H0, ⟨q93 a b H0, ⟨q42 a b H0, ⟨q43 a b H0, ⟨q49 a b H0, ⟨q14 a b H0, ⟨q50 a b H0, trivial⟩⟩⟩⟩⟩⟩⟩⟩⟩⟩⟩⟩⟩⟩⟩⟩⟩⟩⟩⟩⟩⟩⟩⟩⟩⟩⟩⟩⟩ (by kernel_rfl) (by kernel_rfl) (by kernel_rfl)
def o95 : Ob := (170, [.int .i64 14, .sym .i64 50, .sym .i64 53], .ret (.sym .i64 68))
theorem q95 (a b : Int) (H : Hy a b) (hc : True) : Ans (i0 a b) (s0 a b) o95 := by
  have H0 := H
  have hc0 := hc
  obtain ⟨h1, h2, h3, h4⟩ := H
  have ea := q0_lt a
  have fa : qn a 0 = (a % 4294967296).toNat := rfl
  have eb := q0_lt b
  have fb : qn b 0 = (b % 4294967296).toNat := rfl
  exact ans [⟨.convI .i32 (.c (.sym .i64 50)), .sym .i32 0⟩,
    ⟨.convI .i32 (.c (.sym .i64 53)), .sym .i32 1⟩,
    ⟨.bin .sub (.c (.sym .i32 0)) (.c (.sym .i32 1)), .sym .i32 67⟩,
    ⟨.convI .i64 (.c (.sym .i32 67)), .sym .i64 68⟩]
    (⟨(Eq.trans (b := some (.int .i32 (IntKind.i32.wrap (a : Int)))) (by kernel_rfl) (f_int (p := (IntKind.i32.wrap (a : Int))) (q := (a : Int)) (by simp only [IntKind.wrap_i64, IntKind.wrap_i32, IntKind.wrap_u64, IntKind.wrap_u32, Int.tdiv_one, Int.tmod_one] <;> omega))), ⟨(Eq.trans (b := some (.int .i32 (IntKind.i32.wrap (b : Int)))) (by kernel_rfl) (f_int (p := (IntKind.i32.wrap (b : Int))) (q := (b : Int)) (by simp only [IntKind.wrap_i64, IntKind.wrap_i32, IntKind.wrap_u64, IntKind.wrap_u32, Int.tdiv_one, Int.tmod_one] <;> omega))), ⟨(Eq.trans (b := some (.int .i32 (IntKind.i32.wrap ((a : Int) - (b : Int))))) (by kernel_rfl) (f_int (p := (IntKind.i32.wrap ((a : Int) - (b : Int)))) (q := ((IntKind.i32.wrap (a - b)) : Int)) (rfl))), ⟨(Eq.trans (b := some (.int .i64 (IntKind.i64.wrap ((IntKind.i32.wrap (a - b)) : Int)))) (by kernel_rfl) (f_int (p := (IntKind.i64.wrap ((IntKind.i32.wrap (a - b)) : Int))) (q := ((IntKind.i32.wrap (a - b)) : Int)) (by simp only [IntKind.wrap_i64, IntKind.wrap_i32, IntKind.wrap_u64, IntKind.wrap_u32, Int.tdiv_one, Int.tmod_one] <;> omega))), trivial⟩⟩⟩⟩)
    []
    trivial (by kernel_rfl) (by kernel_rfl) (by kernel_rfl)
def o96 : Ob := (170, [.int .i64 14, .sym .i64 50, .sym .i64 53], .ret (.sym .i64 55))
theorem q96 (a b : Int) (H : Hy a b) : Ans (i0 a b) (s0 a b) o96 := by
  show Ans (i0 a b) (s0 a b) (170, [.int .i64 14, .sym .i64 50, .sym .i64 53], .ret (.sym .i64 55))
  exact (q95 a b H trivial).den (congrArg (Vl.int .i64) ((by (first | rfl | omega | (simp only [tr] <;> split <;> omega) | (simp only [tr] <;> omega)) : ((IntKind.i32.wrap (a - b)) : Int) = ((IntKind.i32.wrap (a - b)) : Int))))
def o97 : Ob := (5, [.symS 35, .nils], .ret (.tup [.agg [.str [77], .bool false, .nils, .nils, .sl [] [.agg [.int .i64 0, .int .i64 0, .int .i64 0, .int .i64 0, .nils, .int .i64 0, .int .i64 0], .agg [.int .i64 1, .int .i64 0, .int .i64 0, .int .i64 0, .nils, .int .i64 4, .int .i64 0], .agg [.int .i64 2, .int .i64 0, .int .i64 0, .int .i64 0, .nils, .int .i64 1, .int .i64 0], .agg [.int .i64 3, .int .i64 0, .int .i64 0, .int .i64 0, .nils, .int .i64 1, .int .i64 0], .agg [.int .i64 4, .int .i64 0, .int .i64 0, .int .i64 0, .nils, .int .i64 1, .int .i64 0], .agg [.int .i64 5, .int .i64 0, .int .i64 0, .int .i64 0, .nils, .int .i64 4, .int .i64 0], .agg [.int .i64 6, .int .i64 0, .int .i64 0, .int .i64 0, .nils, .int .i64 4, .int .i64 0], .agg [.int .i64 7, .int .i64 0, .int .i64 0, .int .i64 0, .nils, .int .i64 0, .int .i64 0]], .nils, .sl [] [.agg [.str [99], .int .i64 1, .sym .i64 55, .str [], .bool false]], .nils, .nils, .nils], .int .i64 0, .int .i64 0]))
theorem q97 (a b : Int) (H : Hy a b) : Ans (i0 a b) (s0 a b) o97 := by
  have H0 := H
  exact ans []
    (trivial)
    [o94,
    o54,
    o57,
    o96]
    ⟨q94 a b H0, ⟨q54 a b H0, ⟨q57 a b H0, ⟨q96 a b H0, trivial⟩⟩⟩⟩ (by kernel_rfl) (by kernel_rfl) (by kernel_rfl)
def o98 : Ob := (69, [.symS 36, .str [32, 9, 10, 13]], .ret (.symS 36))
theorem q98 (a b : Int) (H : Hy a b) : Ans (i0 a b) (s0 a b) o98 := by
  have H0 := H
  exact ans [⟨.bin .eql (.c (.symS 36)) (.c (.str [])), .bool false⟩,
    ⟨.len true (.c (.symS 36)), .int .i64 51⟩,
    ⟨.idxStr (.c (.symS 36)) (.c (.int .i64 0)), .int .u8 77⟩]
    (⟨by kernel_rfl, ⟨by kernel_rfl, ⟨by kernel_rfl, trivial⟩⟩⟩)
    []
    trivial (by kernel_rfl) (by kernel_rfl) (by kernel_rfl)
def o99 : Ob := (70, [.symS 36, .str [40, 42]], .ret (.bool false))
theorem q99 (a b : Int) (H : Hy a b) : Ans (i0 a b) (s0 a b) o99 := by
  have H0 := H
  exact ans [⟨.len true (.c (.symS 36)), .int .i64 51⟩,
    ⟨.slcStr (.c (.symS 36)) none (some (.c (.int .i64 2))), .str [77, 79]⟩]
    (⟨by kernel_rfl, ⟨by kernel_rfl, trivial⟩⟩)
    []
    trivial (by kernel_rfl) (by kernel_rfl) (by kernel_rfl)
def o100 : Ob := (129, [.symS 36], .ret (.str [77, 79, 68, 85, 76, 69]))
theorem q100 (a b : Int) (H : Hy a b) : Ans (i0 a b) (s0 a b) o100 := by
  show Ans (i0 a b) (s0 a b) (129, [.symS 36], .ret (.str [77, 79, 68, 85, 76, 69]))
  letI := bare (i0 a b) (s0 a b)
  exact word_ob [77, 79, 68, 85, 76, 69] [32, 77, 59, 32, 67, 79, 78, 83, 84, 32, 99, 32, 61, 32, 48, (dg a 7), (dg a 6), (dg a 5), (dg a 4), (dg a 3), (dg a 2), (dg a 1), (dg a 0), 72, 32, 42, 32, 48, (dg b 7), (dg b 6), (dg b 5), (dg b 4), (dg b 3), (dg b 2), (dg b 1), (dg b 0), 72, 59, 32, 69, 78, 68, 32, 77, 46] (by kernel_rfl) (by kernel_rfl) rfl (al_all (by kernel_rfl)) (nal_ok (by kernel_rfl))
def o101 : Ob := (73, [.symS 36], .ret (.tup [.agg [.int .i64 2, .str [77, 79, 68, 85, 76, 69], .int .i64 0, .int .i64 0], .int .i64 6, .int .i64 0]))
theorem q101 (a b : Int) (H : Hy a b) : Ans (i0 a b) (s0 a b) o101 := by
  have H0 := H
  exact ans [⟨.idxStr (.c (.symS 36)) (.c (.int .i64 0)), .int .u8 77⟩]
    (⟨by kernel_rfl, trivial⟩)
    [o100]
    ⟨q100 a b H0, trivial⟩ (by kernel_rfl) (by kernel_rfl) (by kernel_rfl)
def o102 : Ob := (69, [.symS 75, .str [32, 9, 10, 13]], .ret (.symS 76))
theorem q102 (a b : Int) (H : Hy a b) : Ans (i0 a b) (s0 a b) o102 := by
  have H0 := H
  exact ans [⟨.bin .eql (.c (.symS 75)) (.c (.str [])), .bool false⟩,
    ⟨.len true (.c (.symS 75)), .int .i64 45⟩,
    ⟨.idxStr (.c (.symS 75)) (.c (.int .i64 0)), .int .u8 32⟩,
    ⟨.slcStr (.c (.symS 75)) (some (.c (.int .i64 1))) none, .symS 76⟩,
    ⟨.len true (.c (.symS 76)), .int .i64 44⟩,
    ⟨.idxStr (.c (.symS 76)) (.c (.int .i64 0)), .int .u8 77⟩]
    (⟨by kernel_rfl, ⟨by kernel_rfl, ⟨by kernel_rfl, ⟨by kernel_rfl, ⟨by kernel_rfl, ⟨by kernel_rfl, trivial⟩⟩⟩⟩⟩⟩)
    []
    trivial (by kernel_rfl) (by kernel_rfl) (by kernel_rfl)
def o103 : Ob := (70, [.symS 76, .str [40, 42]], .ret (.bool false))
theorem q103 (a b : Int) (H : Hy a b) : Ans (i0 a b) (s0 a b) o103 := by
  have H0 := H
  exact ans [⟨.len true (.c (.symS 76)), .int .i64 44⟩,
    ⟨.slcStr (.c (.symS 76)) none (some (.c (.int .i64 2))), .str [77, 59]⟩]
    (⟨by kernel_rfl, ⟨by kernel_rfl, trivial⟩⟩)
    []
    trivial (by kernel_rfl) (by kernel_rfl) (by kernel_rfl)
def o104 : Ob := (129, [.symS 76], .ret (.str [77]))
theorem q104 (a b : Int) (H : Hy a b) : Ans (i0 a b) (s0 a b) o104 := by
  show Ans (i0 a b) (s0 a b) (129, [.symS 76], .ret (.str [77]))
  letI := bare (i0 a b) (s0 a b)
  exact word_ob [77] [59, 32, 67, 79, 78, 83, 84, 32, 99, 32, 61, 32, 48, (dg a 7), (dg a 6), (dg a 5), (dg a 4), (dg a 3), (dg a 2), (dg a 1), (dg a 0), 72, 32, 42, 32, 48, (dg b 7), (dg b 6), (dg b 5), (dg b 4), (dg b 3), (dg b 2), (dg b 1), (dg b 0), 72, 59, 32, 69, 78, 68, 32, 77, 46] (by kernel_rfl) (by kernel_rfl) rfl (al_all (by kernel_rfl)) (nal_ok (by kernel_rfl))
def o105 : Ob := (73, [.symS 76], .ret (.tup [.agg [.int .i64 1, .str [77], .int .i64 0, .int .i64 0], .int .i64 1, .int .i64 0]))
theorem q105 (a b : Int) (H : Hy a b) : Ans (i0 a b) (s0 a b) o105 := by
  have H0 := H
  exact ans [⟨.idxStr (.c (.symS 76)) (.c (.int .i64 0)), .int .u8 77⟩]
    (⟨by kernel_rfl, trivial⟩)
    [o104]
    ⟨q104 a b H0, trivial⟩ (by kernel_rfl) (by kernel_rfl) (by kernel_rfl)
def o106 : Ob := (69, [.symS 77, .str [32, 9, 10, 13]], .ret (.symS 77))
theorem q106 (a b : Int) (H : Hy a b) : Ans (i0 a b) (s0 a b) o106 := by
  have H0 := H
  exact ans [⟨.bin .eql (.c (.symS 77)) (.c (.str [])), .bool false⟩,
    ⟨.len true (.c (.symS 77)), .int .i64 43⟩,
    ⟨.idxStr (.c (.symS 77)) (.c (.int .i64 0)), .int .u8 59⟩]
    (⟨by kernel_rfl, ⟨by kernel_rfl, ⟨by kernel_rfl, trivial⟩⟩⟩)
    []
    trivial (by kernel_rfl) (by kernel_rfl) (by kernel_rfl)
def o107 : Ob := (70, [.symS 77, .str [40, 42]], .ret (.bool false))
theorem q107 (a b : Int) (H : Hy a b) : Ans (i0 a b) (s0 a b) o107 := by
  have H0 := H
  exact ans [⟨.len true (.c (.symS 77)), .int .i64 43⟩,
    ⟨.slcStr (.c (.symS 77)) none (some (.c (.int .i64 2))), .str [59, 32]⟩]
    (⟨by kernel_rfl, ⟨by kernel_rfl, trivial⟩⟩)
    []
    trivial (by kernel_rfl) (by kernel_rfl) (by kernel_rfl)
def o108 : Ob := (129, [.symS 77], .ret (.str []))
theorem q108 (a b : Int) (H : Hy a b) : Ans (i0 a b) (s0 a b) o108 := by
  show Ans (i0 a b) (s0 a b) (129, [.symS 77], .ret (.str []))
  letI := bare (i0 a b) (s0 a b)
  exact word_ob [] [59, 32, 67, 79, 78, 83, 84, 32, 99, 32, 61, 32, 48, (dg a 7), (dg a 6), (dg a 5), (dg a 4), (dg a 3), (dg a 2), (dg a 1), (dg a 0), 72, 32, 42, 32, 48, (dg b 7), (dg b 6), (dg b 5), (dg b 4), (dg b 3), (dg b 2), (dg b 1), (dg b 0), 72, 59, 32, 69, 78, 68, 32, 77, 46] (by kernel_rfl) (by kernel_rfl) rfl (al_all (by kernel_rfl)) (nal_ok (by kernel_rfl))
def o109 : Ob := (73, [.symS 77], .ret (.tup [.agg [.int .i64 6, .str [59], .int .i64 0, .int .i64 0], .int .i64 1, .int .i64 0]))
theorem q109 (a b : Int) (H : Hy a b) : Ans (i0 a b) (s0 a b) o109 := by
  have H0 := H
  exact ans [⟨.idxStr (.c (.symS 77)) (.c (.int .i64 0)), .int .u8 59⟩,
    ⟨.len true (.c (.symS 77)), .int .i64 43⟩,
    ⟨.slcStr (.c (.symS 77)) none (some (.c (.int .i64 2))), .str [59, 32]⟩,
    ⟨.slcStr (.c (.symS 77)) none (some (.c (.int .i64 1))), .str [59]⟩]
    (⟨by kernel_rfl, ⟨by kernel_rfl, ⟨by kernel_rfl, ⟨by kernel_rfl, trivial⟩⟩⟩⟩)
    [o108,
    o14]
    ⟨q108 a b H0, ⟨q14 a b H0, trivial⟩⟩ (by kernel_rfl) (by kernel_rfl) (by kernel_rfl)
def o110 : Ob := (69, [.symS 78, .str [32, 9, 10, 13]], .ret (.symS 79))
theorem q110 (a b : Int) (H : Hy a b) : Ans (i0 a b) (s0 a b) o110 := by
  have H0 := H
  exact ans [⟨.bin .eql (.c (.symS 78)) (.c (.str [])), .bool false⟩,
    ⟨.len true (.c (.symS 78)), .int .i64 42⟩,
    ⟨.idxStr (.c (.symS 78)) (.c (.int .i64 0)), .int .u8 32⟩,
    ⟨.slcStr (.c (.symS 78)) (some (.c (.int .i64 1))) none, .symS 79⟩,
    ⟨.len true (.c (.symS 79)), .int .i64 41⟩,
    ⟨.idxStr (.c (.symS 79)) (.c (.int .i64 0)), .int .u8 67⟩]
    (⟨by kernel_rfl, ⟨by kernel_rfl, ⟨by kernel_rfl, ⟨by kernel_rfl, ⟨by kernel_rfl, ⟨by kernel_rfl, trivial⟩⟩⟩⟩⟩⟩)
    []
    trivial (by kernel_rfl) (by kernel_rfl) (by kernel_rfl)
def o111 : Ob := (70, [.symS 79, .str [40, 42]], .ret (.bool false))
theorem q111 (a b : Int) (H : Hy a b) : Ans (i0 a b) (s0 a b) o111 := by
  have H0 := H
  exact ans [⟨.len true (.c (.symS 79)), .int .i64 41⟩,
    ⟨.slcStr (.c (.symS 79)) none (some (.c (.int .i64 2))), .str [67, 79]⟩]
    (⟨by kernel_rfl, ⟨by kernel_rfl, trivial⟩⟩)
    []
    trivial (by kernel_rfl) (by kernel_rfl) (by kernel_rfl)
def o112 : Ob := (129, [.symS 79], .ret (.str [67, 79, 78, 83, 84]))
theorem q112 (a b : Int) (H : Hy a b) : Ans (i0 a b) (s0 a b) o112 := by
  show Ans (i0 a b) (s0 a b) (129, [.symS 79], .ret (.str [67, 79, 78, 83, 84]))
  letI := bare (i0 a b) (s0 a b)
  exact word_ob [67, 79, 78, 83, 84] [32, 99, 32, 61, 32, 48, (dg a 7), (dg a 6), (dg a 5), (dg a 4), (dg a 3), (dg a 2), (dg a 1), (dg a 0), 72, 32, 42, 32, 48, (dg b 7), (dg b 6), (dg b 5), (dg b 4), (dg b 3), (dg b 2), (dg b 1), (dg b 0), 72, 59, 32, 69, 78, 68, 32, 77, 46] (by kernel_rfl) (by kernel_rfl) rfl (al_all (by kernel_rfl)) (nal_ok (by kernel_rfl))
def o113 : Ob := (73, [.symS 79], .ret (.tup [.agg [.int .i64 2, .str [67, 79, 78, 83, 84], .int .i64 0, .int .i64 0], .int .i64 5, .int .i64 0]))
theorem q113 (a b : Int) (H : Hy a b) : Ans (i0 a b) (s0 a b) o113 := by
  have H0 := H
  exact ans [⟨.idxStr (.c (.symS 79)) (.c (.int .i64 0)), .int .u8 67⟩]
    (⟨by kernel_rfl, trivial⟩)
    [o112]
    ⟨q112 a b H0, trivial⟩ (by kernel_rfl) (by kernel_rfl) (by kernel_rfl)
def o114 : Ob := (69, [.symS 80, .str [32, 9, 10, 13]], .ret (.symS 81))
theorem q114 (a b : Int) (H : Hy a b) : Ans (i0 a b) (s0 a b) o114 := by
  have H0 := H
  exact ans [⟨.bin .eql (.c (.symS 80)) (.c (.str [])), .bool false⟩,
    ⟨.len true (.c (.symS 80)), .int .i64 36⟩,
    ⟨.idxStr (.c (.symS 80)) (.c (.int .i64 0)), .int .u8 32⟩,
    ⟨.slcStr (.c (.symS 80)) (some (.c (.int .i64 1))) none, .symS 81⟩,
    ⟨.len true (.c (.symS 81)), .int .i64 35⟩,
    ⟨.idxStr (.c (.symS 81)) (.c (.int .i64 0)), .int .u8 99⟩]
    (⟨by kernel_rfl, ⟨by kernel_rfl, ⟨by kernel_rfl, ⟨by kernel_rfl, ⟨by kernel_rfl, ⟨by kernel_rfl, trivial⟩⟩⟩⟩⟩⟩)
    []
    trivial (by kernel_rfl) (by kernel_rfl) (by kernel_rfl)
def o115 : Ob := (70, [.symS 81, .str [40, 42]], .ret (.bool false))
theorem q115 (a b : Int) (H : Hy a b) : Ans (i0 a b) (s0 a b) o115 := by
  have H0 := H
  exact ans [⟨.len true (.c (.symS 81)), .int .i64 35⟩,
    ⟨.slcStr (.c (.symS 81)) none (some (.c (.int .i64 2))), .str [99, 32]⟩]
    (⟨by kernel_rfl, ⟨by kernel_rfl, trivial⟩⟩)
    []
    trivial (by kernel_rfl) (by kernel_rfl) (by kernel_rfl)
def o116 : Ob := (129, [.symS 81], .ret (.str [99]))
theorem q116 (a b : Int) (H : Hy a b) : Ans (i0 a b) (s0 a b) o116 := by
  show Ans (i0 a b) (s0 a b) (129, [.symS 81], .ret (.str [99]))
  letI := bare (i0 a b) (s0 a b)
  exact word_ob [99] [32, 61, 32, 48, (dg a 7), (dg a 6), (dg a 5), (dg a 4), (dg a 3), (dg a 2), (dg a 1), (dg a 0), 72, 32, 42, 32, 48, (dg b 7), (dg b 6), (dg b 5), (dg b 4), (dg b 3), (dg b 2), (dg b 1), (dg b 0), 72, 59, 32, 69, 78, 68, 32, 77, 46] (by kernel_rfl) (by kernel_rfl) rfl (al_all (by kernel_rfl)) (nal_ok (by kernel_rfl))
def o117 : Ob := (73, [.symS 81], .ret (.tup [.agg [.int .i64 1, .str [99], .int .i64 0, .int .i64 0], .int .i64 1, .int .i64 0]))
theorem q117 (a b : Int) (H : Hy a b) : Ans (i0 a b) (s0 a b) o117 := by
  have H0 := H
  exact ans [⟨.idxStr (.c (.symS 81)) (.c (.int .i64 0)), .int .u8 99⟩]
    (⟨by kernel_rfl, trivial⟩)
    [o116]
    ⟨q116 a b H0, trivial⟩ (by kernel_rfl) (by kernel_rfl) (by kernel_rfl)
def o118 : Ob := (69, [.symS 82, .str [32, 9, 10, 13]], .ret (.symS 83))
theorem q118 (a b : Int) (H : Hy a b) : Ans (i0 a b) (s0 a b) o118 := by
  have H0 := H
  exact ans [⟨.bin .eql (.c (.symS 82)) (.c (.str [])), .bool false⟩,
    ⟨.len true (.c (.symS 82)), .int .i64 34⟩,
    ⟨.idxStr (.c (.symS 82)) (.c (.int .i64 0)), .int .u8 32⟩,
    ⟨.slcStr (.c (.symS 82)) (some (.c (.int .i64 1))) none, .symS 83⟩,
    ⟨.len true (.c (.symS 83)), .int .i64 33⟩,
    ⟨.idxStr (.c (.symS 83)) (.c (.int .i64 0)), .int .u8 61⟩]
    (⟨by kernel_rfl, ⟨by kernel_rfl, ⟨by kernel_rfl, ⟨by kernel_rfl, ⟨by kernel_rfl, ⟨by kernel_rfl, trivial⟩⟩⟩⟩⟩⟩)
    []
    trivial (by kernel_rfl) (by kernel_rfl) (by kernel_rfl)
def o119 : Ob := (70, [.symS 83, .str [40, 42]], .ret (.bool false))
theorem q119 (a b : Int) (H : Hy a b) : Ans (i0 a b) (s0 a b) o119 := by
  have H0 := H
  exact ans [⟨.len true (.c (.symS 83)), .int .i64 33⟩,
    ⟨.slcStr (.c (.symS 83)) none (some (.c (.int .i64 2))), .str [61, 32]⟩]
    (⟨by kernel_rfl, ⟨by kernel_rfl, trivial⟩⟩)
    []
    trivial (by kernel_rfl) (by kernel_rfl) (by kernel_rfl)
def o120 : Ob := (129, [.symS 83], .ret (.str []))
theorem q120 (a b : Int) (H : Hy a b) : Ans (i0 a b) (s0 a b) o120 := by
  show Ans (i0 a b) (s0 a b) (129, [.symS 83], .ret (.str []))
  letI := bare (i0 a b) (s0 a b)
  exact word_ob [] [61, 32, 48, (dg a 7), (dg a 6), (dg a 5), (dg a 4), (dg a 3), (dg a 2), (dg a 1), (dg a 0), 72, 32, 42, 32, 48, (dg b 7), (dg b 6), (dg b 5), (dg b 4), (dg b 3), (dg b 2), (dg b 1), (dg b 0), 72, 59, 32, 69, 78, 68, 32, 77, 46] (by kernel_rfl) (by kernel_rfl) rfl (al_all (by kernel_rfl)) (nal_ok (by kernel_rfl))
def o121 : Ob := (73, [.symS 83], .ret (.tup [.agg [.int .i64 6, .str [61], .int .i64 0, .int .i64 0], .int .i64 1, .int .i64 0]))
theorem q121 (a b : Int) (H : Hy a b) : Ans (i0 a b) (s0 a b) o121 := by
  have H0 := H
  exact ans [⟨.idxStr (.c (.symS 83)) (.c (.int .i64 0)), .int .u8 61⟩,
    ⟨.len true (.c (.symS 83)), .int .i64 33⟩,
    ⟨.slcStr (.c (.symS 83)) none (some (.c (.int .i64 2))), .str [61, 32]⟩,
    ⟨.slcStr (.c (.symS 83)) none (some (.c (.int .i64 1))), .str [61]⟩]
    (⟨by kernel_rfl, ⟨by kernel_rfl, ⟨by kernel_rfl, ⟨by kernel_rfl, trivial⟩⟩⟩⟩)
    [o120,
    o27]
    ⟨q120 a b H0, ⟨q27 a b H0, trivial⟩⟩ (by kernel_rfl) (by kernel_rfl) (by kernel_rfl)
def o122 : Ob := (69, [.symS 84, .str [32, 9, 10, 13]], .ret (.symS 85))
theorem q122 (a b : Int) (H : Hy a b) : Ans (i0 a b) (s0 a b) o122 := by
  have H0 := H
  exact ans [⟨.bin .eql (.c (.symS 84)) (.c (.str [])), .bool false⟩,
    ⟨.len true (.c (.symS 84)), .int .i64 32⟩,
    ⟨.idxStr (.c (.symS 84)) (.c (.int .i64 0)), .int .u8 32⟩,
    ⟨.slcStr (.c (.symS 84)) (some (.c (.int .i64 1))) none, .symS 85⟩,
    ⟨.len true (.c (.symS 85)), .int .i64 31⟩,
    ⟨.idxStr (.c (.symS 85)) (.c (.int .i64 0)), .int .u8 48⟩]
    (⟨by kernel_rfl, ⟨by kernel_rfl, ⟨by kernel_rfl, ⟨by kernel_rfl, ⟨by kernel_rfl, ⟨by kernel_rfl, trivial⟩⟩⟩⟩⟩⟩)
    []
    trivial (by kernel_rfl) (by kernel_rfl) (by kernel_rfl)
def o123 : Ob := (70, [.symS 85, .str [40, 42]], .ret (.bool false))
theorem q123 (a b : Int) (H : Hy a b) : Ans (i0 a b) (s0 a b) o123 := by
  have H0 := H
  exact ans [⟨.len true (.c (.symS 85)), .int .i64 31⟩,
    ⟨.slcStr (.c (.symS 85)) none (some (.c (.int .i64 2))), .symS 56⟩,
    ⟨.bin .eql (.c (.symS 56)) (.c (.str [40, 42])), .bool false⟩]
    (⟨by kernel_rfl, ⟨by kernel_rfl, ⟨by kernel_rfl, trivial⟩⟩⟩)
    []
    trivial (by kernel_rfl) (by kernel_rfl) (by kernel_rfl)
def o124 : Ob := (129, [.symS 85], .ret (.symS 0))
theorem q124 (a b : Int) (H : Hy a b) : Ans (i0 a b) (s0 a b) o124 := by
  show Ans (i0 a b) (s0 a b) (129, [.symS 85], .ret (.symS 0))
  letI := bare (i0 a b) (s0 a b)
  exact word_ob (dgs a ++ [72]) [32, 42, 32, 48, (dg b 7), (dg b 6), (dg b 5), (dg b 4), (dg b 3), (dg b 2), (dg b 1), (dg b 0), 72, 59, 32, 69, 78, 68, 32, 77, 46] (by kernel_rfl) (by kernel_rfl) rfl (dgs_alnum a) (nal_ok (by kernel_rfl))
def o125 : Ob := (73, [.symS 85], .ret (.tup [.agg [.int .i64 3, .str [], .sym .i64 50, .int .i64 0], .int .i64 10, .int .i64 0]))
theorem q125 (a b : Int) (H : Hy a b) : Ans (i0 a b) (s0 a b) o125 := by
  have H0 := H
  exact ans [⟨.idxStr (.c (.symS 85)) (.c (.int .i64 0)), .int .u8 48⟩,
    ⟨.len true (.c (.symS 0)), .int .i64 10⟩]
    (⟨by kernel_rfl, ⟨by kernel_rfl, trivial⟩⟩)
    [o124,
    o35]
    ⟨q124 a b H0, ⟨q35 a b H0, trivial⟩⟩ (by kernel_rfl) (by kernel_rfl) (by kernel_rfl)
def o126 : Ob := (69, [.symS 86, .str [32, 9, 10, 13]], .ret (.symS 87))
theorem q126 (a b : Int) (H : Hy a b) : Ans (i0 a b) (s0 a b) o126 := by
  have H0 := H
  exact ans [⟨.bin .eql (.c (.symS 86)) (.c (.str [])), .bool false⟩,
    ⟨.len true (.c (.symS 86)), .int .i64 21⟩,
    ⟨.idxStr (.c (.symS 86)) (.c (.int .i64 0)), .int .u8 32⟩,
    ⟨.slcStr (.c (.symS 86)) (some (.c (.int .i64 1))) none, .symS 87⟩,
    ⟨.len true (.c (.symS 87)), .int .i64 20⟩,
    ⟨.idxStr (.c (.symS 87)) (.c (.int .i64 0)), .int .u8 42⟩]
    (⟨by kernel_rfl, ⟨by kernel_rfl, ⟨by kernel_rfl, ⟨by kernel_rfl, ⟨by kernel_rfl, ⟨by kernel_rfl, trivial⟩⟩⟩⟩⟩⟩)
    []
    trivial (by kernel_rfl) (by kernel_rfl) (by kernel_rfl)
def o127 : Ob := (70, [.symS 87, .str [40, 42]], .ret (.bool false))
theorem q127 (a b : Int) (H : Hy a b) : Ans (i0 a b) (s0 a b) o127 := by
  have H0 := H
  exact ans [⟨.len true (.c (.symS 87)), .int .i64 20⟩,
    ⟨.slcStr (.c (.symS 87)) none (some (.c (.int .i64 2))), .str [42, 32]⟩]
    (⟨by kernel_rfl, ⟨by kernel_rfl, trivial⟩⟩)
    []
    trivial (by kernel_rfl) (by kernel_rfl) (by kernel_rfl)
def o128 : Ob := (129, [.symS 87], .ret (.str []))
theorem q128 (a b : Int) (H : Hy a b) : Ans (i0 a b) (s0 a b) o128 := by
  show Ans (i0 a b) (s0 a b) (129, [.symS 87], .ret (.str []))
  letI := bare (i0 a b) (s0 a b)
  exact word_ob [] [42, 32, 48, (dg b 7), (dg b 6), (dg b 5), (dg b 4), (dg b 3), (dg b 2), (dg b 1), (dg b 0), 72, 59, 32, 69, 78, 68, 32, 77, 46] (by kernel_rfl) (by kernel_rfl) rfl (al_all (by kernel_rfl)) (nal_ok (by kernel_rfl))
def o129 : Ob := (224, [.str [43, 45, 42, 47, 126, 38, 46, 44, 59, 124, 40, 41, 91, 93, 123, 125, 58, 94, 61, 35, 60, 62], .int .u8 42], .ret (.int .i64 2))
theorem q129 (a b : Int) (H : Hy a b) : Ans (i0 a b) (s0 a b) o129 := by
  show Ans (i0 a b) (s0 a b) (224, [.str [43, 45, 42, 47, 126, 38, 46, 44, 59, 124, 40, 41, 91, 93, 123, 125, 58, 94, 61, 35, 60, 62], .int .u8 42], .ret (.int .i64 2))
  letI := bare (i0 a b) (s0 a b)
  exact index_ob _ _ _ (by kernel_rfl)
def o130 : Ob := (73, [.symS 87], .ret (.tup [.agg [.int .i64 6, .str [42], .int .i64 0, .int .i64 0], .int .i64 1, .int .i64 0]))
theorem q130 (a b : Int) (H : Hy a b) : Ans (i0 a b) (s0 a b) o130 := by
  have H0 := H
  exact ans [⟨.idxStr (.c (.symS 87)) (.c (.int .i64 0)), .int .u8 42⟩,
    ⟨.len true (.c (.symS 87)), .int .i64 20⟩,
    ⟨.slcStr (.c (.symS 87)) none (some (.c (.int .i64 2))), .str [42, 32]⟩,
    ⟨.slcStr (.c (.symS 87)) none (some (.c (.int .i64 1))), .str [42]⟩]
    (⟨by kernel_rfl, ⟨by kernel_rfl, ⟨by kernel_rfl, ⟨by kernel_rfl, trivial⟩⟩⟩⟩)
    [o128,
    o129]
    ⟨q128 a b H0, ⟨q129 a b H0, trivial⟩⟩ (by kernel_rfl) (by kernel_rfl) (by kernel_rfl)
def o131 : Ob := (22, [.symS 36], .ret (.tup [.sl [] [.agg [.int .i64 2, .str [77, 79, 68, 85, 76, 69], .int .i64 0, .int .i64 0], .agg [.int .i64 1, .str [77], .int .i64 0, .int .i64 7], .agg [.int .i64 6, .str [59], .int .i64 0, .int .i64 8], .agg [.int .i64 2, .str [67, 79, 78, 83, 84], .int .i64 0, .int .i64 10], .agg [.int .i64 1, .str [99], .int .i64 0, .int .i64 16], .agg [.int .i64 6, .str [61], .int .i64 0, .int .i64 18], .agg [.int .i64 3, .str [], .sym .i64 50, .int .i64 20], .agg [.int .i64 6, .str [42], .int .i64 0, .int .i64 31], .agg [.int .i64 3, .str [], .sym .i64 53, .int .i64 33], .agg [.int .i64 6, .str [59], .int .i64 0, .int .i64 43], .agg [.int .i64 2, .str [69, 78, 68], .int .i64 0, .int .i64 45], .agg [.int .i64 1, .str [77], .int .i64 0, .int .i64 49], .agg [.int .i64 6, .str [46], .int .i64 0, .int .i64 50], .agg [.int .i64 0, .str [], .int .i64 0, .int .i64 51]], .int .i64 0, .int .i64 0]))
theorem q131 (a b : Int) (H : Hy a b) : Ans (i0 a b) (s0 a b) o131 := by
  have H0 := H
  exact ans [⟨.len true (.c (.symS 36)), .int .i64 51⟩,
    ⟨.slcStr (.c (.symS 36)) (some (.c (.int .i64 0))) none, .symS 36⟩,
    ⟨.bin .eql (.c (.symS 36)) (.c (.str [])), .bool false⟩,
    ⟨.slcStr (.c (.symS 36)) (some (.c (.int .i64 6))) none, .symS 75⟩,
    ⟨.len true (.c (.symS 76)), .int .i64 44⟩,
    ⟨.bin .eql (.c (.symS 76)) (.c (.str [])), .bool false⟩,
    ⟨.slcStr (.c (.symS 36)) (some (.c (.int .i64 8))) none, .symS 77⟩,
    ⟨.len true (.c (.symS 77)), .int .i64 43⟩,
    ⟨.bin .eql (.c (.symS 77)) (.c (.str [])), .bool false⟩,
    ⟨.slcStr (.c (.symS 36)) (some (.c (.int .i64 9))) none, .symS 78⟩,
    ⟨.len true (.c (.symS 79)), .int .i64 41⟩,
    ⟨.bin .eql (.c (.symS 79)) (.c (.str [])), .bool false⟩,
    ⟨.slcStr (.c (.symS 36)) (some (.c (.int .i64 15))) none, .symS 80⟩,
    ⟨.len true (.c (.symS 81)), .int .i64 35⟩,
    ⟨.bin .eql (.c (.symS 81)) (.c (.str [])), .bool false⟩,
    ⟨.slcStr (.c (.symS 36)) (some (.c (.int .i64 17))) none, .symS 82⟩,
    ⟨.len true (.c (.symS 83)), .int .i64 33⟩,
    ⟨.bin .eql (.c (.symS 83)) (.c (.str [])), .bool false⟩,
    ⟨.slcStr (.c (.symS 36)) (some (.c (.int .i64 19))) none, .symS 84⟩,
    ⟨.len true (.c (.symS 85)), .int .i64 31⟩,
    ⟨.bin .eql (.c (.symS 85)) (.c (.str [])), .bool false⟩,
    ⟨.slcStr (.c (.symS 36)) (some (.c (.int .i64 30))) none, .symS 86⟩,
    ⟨.len true (.c (.symS 87)), .int .i64 20⟩,
    ⟨.bin .eql (.c (.symS 87)) (.c (.str [])), .bool false⟩,
    ⟨.slcStr (.c (.symS 36)) (some (.c (.int .i64 32))) none, .symS 59⟩,
    ⟨.len true (.c (.symS 60)), .int .i64 18⟩,
    ⟨.bin .eql (.c (.symS 60)) (.c (.str [])), .bool false⟩,
    ⟨.slcStr (.c (.symS 36)) (some (.c (.int .i64 43))) none, .str [59, 32, 69, 78, 68, 32, 77, 46]⟩,
    ⟨.slcStr (.c (.symS 36)) (some (.c (.int .i64 44))) none, .str [32, 69, 78, 68, 32, 77, 46]⟩,
    ⟨.slcStr (.c (.symS 36)) (some (.c (.int .i64 48))) none, .str [32, 77, 46]⟩,
    ⟨.slcStr (.c (.symS 36)) (some (.c (.int .i64 50))) none, .str [46]⟩,
    ⟨.slcStr (.c (.symS 36)) (some (.c (.int .i64 51))) none, .str []⟩]
    (⟨by kernel_rfl, ⟨by kernel_rfl, ⟨by kernel_rfl, ⟨by kernel_rfl, ⟨by kernel_rfl, ⟨by kernel_rfl, ⟨by kernel_rfl, ⟨by kernel_rfl, ⟨by kernel_rfl, ⟨by kernel_rfl, ⟨by kernel_rfl, ⟨by kernel_rfl, ⟨by kernel_rfl, ⟨by kernel_rfl, ⟨by kernel_rfl, ⟨by kernel_rfl, ⟨by kernel_rfl, ⟨by kernel_rfl, ⟨by kernel_rfl, ⟨by kernel_rfl, ⟨by kernel_rfl, ⟨by kernel_rfl, ⟨by kernel_rfl, ⟨by kernel_rfl, ⟨by kernel_rfl, ⟨by kernel_rfl, ⟨by kernel_rfl, ⟨by kernel_rfl, ⟨by kernel_rfl, ⟨by kernel_rfl, ⟨by kernel_rfl, ⟨by kernel_rfl, trivial⟩⟩⟩⟩⟩⟩⟩⟩⟩⟩⟩⟩⟩⟩⟩⟩⟩⟩⟩⟩⟩⟩⟩⟩⟩⟩⟩⟩⟩⟩⟩⟩)
    [o98,
    o99,
    o101,
    o102,
    o103,
    o105,
    o106,
    o107,
    o109,
    o110,
    o111,
    o113,
    o114,
    o115,
    o117,
    o118,
    o119,
    o121,
    o122,
    o123,
    o125,
    o126,
    o127,
    o130,
    o42,
    o43,
    o49,
    o14,
    o50]
    ⟨q98 a b H0, ⟨q99 a b H0, ⟨q101 a b H0, ⟨q102 a b H0, ⟨q103 a b H0, ⟨q105 a b H0, ⟨q106 a b H0, ⟨q107 a b H0, ⟨q109 a b H0, ⟨q110 a b H0, ⟨q111 a b H0, ⟨q113 a b H0, ⟨q114 a b H0, ⟨q115 a b H0, ⟨q117 a b H0, ⟨q118 a b H0, ⟨q119 a b H0, ⟨q121 a b H0, ⟨q122 a b H0, ⟨q123 a b H0, ⟨q125 a b H0, ⟨q126 a b H0, ⟨q127 a b H0, ⟨q130 a b H0, ⟨q42 a b H0, ⟨q43 a b H0, ⟨q49 a b H0, ⟨q14 a b H0, ⟨q50 a b H0, trivial⟩⟩⟩⟩⟩⟩⟩⟩⟩⟩⟩⟩⟩⟩⟩⟩⟩⟩⟩⟩⟩⟩⟩⟩⟩⟩⟩⟩⟩ (by kernel_rfl) (by kernel_rfl) (by kernel_rfl)
def o132 : Ob := (170, [.int .i64 15, .sym .i64 50, .sym .i64 53], .ret (.sym .i64 70))
theorem q132 (a b : Int) (H : Hy a b) (hc : True) : Ans (i0 a b) (s0 a b) o132 := by
  have H0 := H
  have hc0 := hc
  obtain ⟨h1, h2, h3, h4⟩ := H
  have ea := q0_lt a
  have fa : qn a 0 = (a % 4294967296).toNat := rfl
  have eb := q0_lt b
  have fb : qn b 0 = (b % 4294967296).toNat := rfl
  exact ans [⟨.convI .i32 (.c (.sym .i64 50)), .sym .i32 0⟩,
    ⟨.convI .i32 (.c (.sym .i64 53)), .sym .i32 1⟩,
    ⟨.bin .mul (.c (.sym .i32 0)) (.c (.sym .i32 1)), .sym .i32 69⟩,
    ⟨.convI .i64 (.c (.sym .i32 69)), .sym .i64 70⟩]
    (⟨(Eq.trans (b := some (.int .i32 (IntKind.i32.wrap (a : Int)))) (by kernel_rfl) (f_int (p := (IntKind.i32.wrap (a : Int))) (q := (a : Int)) (by simp only [IntKind.wrap_i64, IntKind.wrap_i32, IntKind.wrap_u64, IntKind.wrap_u32, Int.tdiv_one, Int.tmod_one] <;> omega))), ⟨(Eq.trans (b := some (.int .i32 (IntKind.i32.wrap (b : Int)))) (by kernel_rfl) (f_int (p := (IntKind.i32.wrap (b : Int))) (q := (b : Int)) (by simp only [IntKind.wrap_i64, IntKind.wrap_i32, IntKind.wrap_u64, IntKind.wrap_u32, Int.tdiv_one, Int.tmod_one] <;> omega))), ⟨(Eq.trans (b := some (.int .i32 (IntKind.i32.wrap ((a : Int) * (b : Int))))) (by kernel_rfl) (f_int (p := (IntKind.i32.wrap ((a : Int) * (b : Int)))) (q := ((IntKind.i32.wrap (a * b)) : Int)) (rfl))), ⟨(Eq.trans (b := some (.int .i64 (IntKind.i64.wrap ((IntKind.i32.wrap (a * b)) : Int)))) (by kernel_rfl) (f_int (p := (IntKind.i64.wrap ((IntKind.i32.wrap (a * b)) : Int))) (q := ((IntKind.i32.wrap (a * b)) : Int)) (by simp only [IntKind.wrap_i64, IntKind.wrap_i32, IntKind.wrap_u64, IntKind.wrap_u32, Int.tdiv_one, Int.tmod_one] <;> omega))), trivial⟩⟩⟩⟩)
    []
    trivial (by kernel_rfl) (by kernel_rfl) (by kernel_rfl)
def o133 : Ob := (170, [.int .i64 15, .sym .i64 50, .sym .i64 53], .ret (.sym .i64 56))
theorem q133 (a b : Int) (H : Hy a b) : Ans (i0 a b) (s0 a b) o133 := by
  show Ans (i0 a b) (s0 a b) (170, [.int .i64 15, .sym .i64 50, .sym .i64 53], .ret (.sym .i64 56))
  exact (q132 a b H trivial).den (congrArg (Vl.int .i64) ((by (first | rfl | omega | (simp only [tr] <;> split <;> omega) | (simp only [tr] <;> omega)) : ((IntKind.i32.wrap (a * b)) : Int) = ((IntKind.i32.wrap (a * b)) : Int))))
def o134 : Ob := (5, [.symS 36, .nils], .ret (.tup [.agg [.str [77], .bool false, .nils, .nils, .sl [] [.agg [.int .i64 0, .int .i64 0, .int .i64 0, .int .i64 0, .nils, .int .i64 0, .int .i64 0], .agg [.int .i64 1, .int .i64 0, .int .i64 0, .int .i64 0, .nils, .int .i64 4, .int .i64 0], .agg [.int .i64 2, .int .i64 0, .int .i64 0, .int .i64 0, .nils, .int .i64 1, .int .i64 0], .agg [.int .i64 3, .int .i64 0, .int .i64 0, .int .i64 0, .nils, .int .i64 1, .int .i64 0], .agg [.int .i64 4, .int .i64 0, .int .i64 0, .int .i64 0, .nils, .int .i64 1, .int .i64 0], .agg [.int .i64 5, .int .i64 0, .int .i64 0, .int .i64 0, .nils, .int .i64 4, .int .i64 0], .agg [.int .i64 6, .int .i64 0, .int .i64 0, .int .i64 0, .nils, .int .i64 4, .int .i64 0], .agg [.int .i64 7, .int .i64 0, .int .i64 0, .int .i64 0, .nils, .int .i64 0, .int .i64 0]], .nils, .sl [] [.agg [.str [99], .int .i64 1, .sym .i64 56, .str [], .bool false]], .nils, .nils, .nils], .int .i64 0, .int .i64 0]))
theorem q134 (a b : Int) (H : Hy a b) : Ans (i0 a b) (s0 a b) o134 := by
  have H0 := H
  exact ans []
    (trivial)
    [o131,
    o54,
    o57,
    o133]
    ⟨q131 a b H0, ⟨q54 a b H0, ⟨q57 a b H0, ⟨q133 a b H0, trivial⟩⟩⟩⟩ (by kernel_rfl) (by kernel_rfl) (by kernel_rfl)
def o135 : Ob := (69, [.symS 37, .str [32, 9, 10, 13]], .ret (.symS 37))
theorem q135 (a b : Int) (H : Hy a b) : Ans (i0 a b) (s0 a b) o135 := by
  have H0 := H
  exact ans [⟨.bin .eql (.c (.symS 37)) (.c (.str [])), .bool false⟩,
    ⟨.len true (.c (.symS 37)), .int .i64 53⟩,
    ⟨.idxStr (.c (.symS 37)) (.c (.int .i64 0)), .int .u8 77⟩]
    (⟨by kernel_rfl, ⟨by kernel_rfl, ⟨by kernel_rfl, trivial⟩⟩⟩)
    []
    trivial (by kernel_rfl) (by kernel_rfl) (by kernel_rfl)
def o136 : Ob := (70, [.symS 37, .str [40, 42]], .ret (.bool false))
theorem q136 (a b : Int) (H : Hy a b) : Ans (i0 a b) (s0 a b) o136 := by
  have H0 := H
  exact ans [⟨.len true (.c (.symS 37)), .int .i64 53⟩,
    ⟨.slcStr (.c (.symS 37)) none (some (.c (.int .i64 2))), .str [77, 79]⟩]
    (⟨by kernel_rfl, ⟨by kernel_rfl, trivial⟩⟩)
    []
    trivial (by kernel_rfl) (by kernel_rfl) (by kernel_rfl)
def o137 : Ob := (129, [.symS 37], .ret (.str [77, 79, 68, 85, 76, 69]))
theorem q137 (a b : Int) (H : Hy a b) : Ans (i0 a b) (s0 a b) o137 := by
  show Ans (i0 a b) (s0 a b) (129, [.symS 37], .ret (.str [77, 79, 68, 85, 76, 69]))
  letI := bare (i0 a b) (s0 a b)
  exact word_ob [77, 79, 68, 85, 76, 69] [32, 77, 59, 32, 67, 79, 78, 83, 84, 32, 99, 32, 61, 32, 48, (dg a 7), (dg a 6), (dg a 5), (dg a 4), (dg a 3), (dg a 2), (dg a 1), (dg a 0), 72, 32, 68, 73, 86, 32, 48, (dg b 7), (dg b 6), (dg b 5), (dg b 4), (dg b 3), (dg b 2), (dg b 1), (dg b 0), 72, 59, 32, 69, 78, 68, 32, 77, 46] (by kernel_rfl) (by kernel_rfl) rfl (al_all (by kernel_rfl)) (nal_ok (by kernel_rfl))
def o138 : Ob := (73, [.symS 37], .ret (.tup [.agg [.int .i64 2, .str [77, 79, 68, 85, 76, 69], .int .i64 0, .int .i64 0], .int .i64 6, .int .i64 0]))
theorem q138 (a b : Int) (H : Hy a b) : Ans (i0 a b) (s0 a b) o138 := by
  have H0 := H
  exact ans [⟨.idxStr (.c (.symS 37)) (.c (.int .i64 0)), .int .u8 77⟩]
    (⟨by kernel_rfl, trivial⟩)
    [o137]
    ⟨q137 a b H0, trivial⟩ (by kernel_rfl) (by kernel_rfl) (by kernel_rfl)
def o139 : Ob := (69, [.symS 166, .str [32, 9, 10, 13]], .ret (.symS 167))
theorem q139 (a b : Int) (H : Hy a b) : Ans (i0 a b) (s0 a b) o139 := by
  have H0 := H
  exact ans [⟨.bin .eql (.c (.symS 166)) (.c (.str [])), .bool false⟩,
    ⟨.len true (.c (.symS 166)), .int .i64 47⟩,
    ⟨.idxStr (.c (.symS 166)) (.c (.int .i64 0)), .int .u8 32⟩,
    ⟨.slcStr (.c (.symS 166)) (some (.c (.int .i64 1))) none, .symS 167⟩,
    ⟨.len true (.c (.symS 167)), .int .i64 46⟩,
    ⟨.idxStr (.c (.symS 167)) (.c (.int .i64 0)), .int .u8 77⟩]
    (⟨by kernel_rfl, ⟨by kernel_rfl, ⟨by kernel_rfl, ⟨by kernel_rfl, ⟨by kernel_rfl, ⟨by kernel_rfl, trivial⟩⟩⟩⟩⟩⟩)
    []
    trivial (by kernel_rfl) (by kernel_rfl) (by kernel_rfl)
def o140 : Ob := (70, [.symS 167, .str [40, 42]], .ret (.bool false))
theorem q140 (a b : Int) (H : Hy a b) : Ans (i0 a b) (s0 a b) o140 := by
  have H0 := H
  exact ans [⟨.len true (.c (.symS 167)), .int .i64 46⟩,
    ⟨.slcStr (.c (.symS 167)) none (some (.c (.int .i64 2))), .str [77, 59]⟩]
    (⟨by kernel_rfl, ⟨by kernel_rfl, trivial⟩⟩)
    []
    trivial (by kernel_rfl) (by kernel_rfl) (by kernel_rfl)
def o141 : Ob := (129, [.symS 167], .ret (.str [77]))
theorem q141 (a b : Int) (H : Hy a b) : Ans (i0 a b) (s0 a b) o141 := by
  show Ans (i0 a b) (s0 a b) (129, [.symS 167], .ret (.str [77]))
  letI := bare (i0 a b) (s0 a b)
  exact word_ob [77] [59, 32, 67, 79, 78, 83, 84, 32, 99, 32, 61, 32, 48, (dg a 7), (dg a 6), (dg a 5), (dg a 4), (dg a 3), (dg a 2), (dg a 1), (dg a 0), 72, 32, 68, 73, 86, 32, 48, (dg b 7), (dg b 6), (dg b 5), (dg b 4), (dg b 3), (dg b 2), (dg b 1), (dg b 0), 72, 59, 32, 69, 78, 68, 32, 77, 46] (by kernel_rfl) (by kernel_rfl) rfl (al_all (by kernel_rfl)) (nal_ok (by kernel_rfl))
def o142 : Ob := (73, [.symS 167], .ret (.tup [.agg [.int .i64 1, .str [77], .int .i64 0, .int .i64 0], .int .i64 1, .int .i64 0]))
theorem q142 (a b : Int) (H : Hy a b) : Ans (i0 a b) (s0 a b) o142 := by
  have H0 := H
  exact ans [⟨.idxStr (.c (.symS 167)) (.c (.int .i64 0)), .int .u8 77⟩]
    (⟨by kernel_rfl, trivial⟩)
    [o141]
    ⟨q141 a b H0, trivial⟩ (by kernel_rfl) (by kernel_rfl) (by kernel_rfl)
def o143 : Ob := (69, [.symS 168, .str [32, 9, 10, 13]], .ret (.symS 168))
theorem q143 (a b : Int) (H : Hy a b) : Ans (i0 a b) (s0 a b) o143 := by
  have H0 := H
  exact ans [⟨.bin .eql (.c (.symS 168)) (.c (.str [])), .bool false⟩,
    ⟨.len true (.c (.symS 168)), .int .i64 45⟩,
    ⟨.idxStr (.c (.symS 168)) (.c (.int .i64 0)), .int .u8 59⟩]
    (⟨by kernel_rfl, ⟨by kernel_rfl, ⟨by kernel_rfl, trivial⟩⟩⟩)
    []
    trivial (by kernel_rfl) (by kernel_rfl) (by kernel_rfl)
def o144 : Ob := (70, [.symS 168, .str [40, 42]], .ret (.bool false))
theorem q144 (a b : Int) (H : Hy a b) : Ans (i0 a b) (s0 a b) o144 := by
  have H0 := H
  exact ans [⟨.len true (.c (.symS 168)), .int .i64 45⟩,
    ⟨.slcStr (.c (.symS 168)) none (some (.c (.int .i64 2))), .str [59, 32]⟩]
    (⟨by kernel_rfl, ⟨by kernel_rfl, trivial⟩⟩)
    []
    trivial (by kernel_rfl) (by kernel_rfl) (by kernel_rfl)
def o145 : Ob := (129, [.symS 168], .ret (.str []))
theorem q145 (a b : Int) (H : Hy a b) : Ans (i0 a b) (s0 a b) o145 := by
  show Ans (i0 a b) (s0 a b) (129, [.symS 168], .ret (.str []))
  letI := bare (i0 a b) (s0 a b)
  exact word_ob [] [59, 32, 67, 79, 78, 83, 84, 32, 99, 32, 61, 32, 48, (dg a 7), (dg a 6), (dg a 5), (dg a 4), (dg a 3), (dg a 2), (dg a 1), (dg a 0), 72, 32, 68, 73, 86, 32, 48, (dg b 7), (dg b 6), (dg b 5), (dg b 4), (dg b 3), (dg b 2), (dg b 1), (dg b 0), 72, 59, 32, 69, 78, 68, 32, 77, 46] (by kernel_rfl) (by kernel_rfl) rfl (al_all (by kernel_rfl)) (nal_ok (by kernel_rfl))
def o146 : Ob := (73, [.symS 168], .ret (.tup [.agg [.int .i64 6, .str [59], .int .i64 0, .int .i64 0], .int .i64 1, .int .i64 0]))
theorem q146 (a b : Int) (H : Hy a b) : Ans (i0 a b) (s0 a b) o146 := by
  have H0 := H
  exact ans [⟨.idxStr (.c (.symS 168)) (.c (.int .i64 0)), .int .u8 59⟩,
    ⟨.len true (.c (.symS 168)), .int .i64 45⟩,
    ⟨.slcStr (.c (.symS 168)) none (some (.c (.int .i64 2))), .str [59, 32]⟩,
    ⟨.slcStr (.c (.symS 168)) none (some (.c (.int .i64 1))), .str [59]⟩]
    (⟨by kernel_rfl, ⟨by kernel_rfl, ⟨by kernel_rfl, ⟨by kernel_rfl, trivial⟩⟩⟩⟩)
    [o145,
    o14]
    ⟨q145 a b H0, ⟨q14 a b H0, trivial⟩⟩ (by kernel_rfl) (by kernel_rfl) (by kernel_rfl)
def o147 : Ob := (69, [.symS 169, .str [32, 9, 10, 13]], .ret (.symS 170))
theorem q147 (a b : Int) (H : Hy a b) : Ans (i0 a b) (s0 a b) o147 := by
  have H0 := H
  exact ans [⟨.bin .eql (.c (.symS 169)) (.c (.str [])), .bool false⟩,
    ⟨.len true (.c (.symS 169)), .int .i64 44⟩,
    ⟨.idxStr (.c (.symS 169)) (.c (.int .i64 0)), .int .u8 32⟩,
    ⟨.slcStr (.c (.symS 169)) (some (.c (.int .i64 1))) none, .symS 170⟩,
    ⟨.len true (.c (.symS 170)), .int .i64 43⟩,
    ⟨.idxStr (.c (.symS 170)) (.c (.int .i64 0)), .int .u8 67⟩]
    (⟨by kernel_rfl, ⟨by kernel_rfl, ⟨by kernel_rfl, ⟨by kernel_rfl, ⟨by kernel_rfl, ⟨by kernel_rfl, trivial⟩⟩⟩⟩⟩⟩)
    []
    trivial (by kernel_rfl) (by kernel_rfl) (by kernel_rfl)
def o148 : Ob := (70, [.symS 170, .str [40, 42]], .ret (.bool false))
theorem q148 (a b : Int) (H : Hy a b) : Ans (i0 a b) (s0 a b) o148 := by
  have H0 := H
  exact ans [⟨.len true (.c (.symS 170)), .int .i64 43⟩,
    ⟨.slcStr (.c (.symS 170)) none (some (.c (.int .i64 2))), .str [67, 79]⟩]
    (⟨by kernel_rfl, ⟨by kernel_rfl, trivial⟩⟩)
    []
    trivial (by kernel_rfl) (by kernel_rfl) (by kernel_rfl)
def o149 : Ob := (129, [.symS 170], .ret (.str [67, 79, 78, 83, 84]))
theorem q149 (a b : Int) (H : Hy a b) : Ans (i0 a b) (s0 a b) o149 := by
  show Ans (i0 a b) (s0 a b) (129, [.symS 170], .ret (.str [67, 79, 78, 83, 84]))
  letI := bare (i0 a b) (s0 a b)
  exact word_ob [67, 79, 78, 83, 84] [32, 99, 32, 61, 32, 48, (dg a 7), (dg a 6), (dg a 5), (dg a 4), (dg a 3), (dg a 2), (dg a 1), (dg a 0), 72, 32, 68, 73, 86, 32, 48, (dg b 7), (dg b 6), (dg b 5), (dg b 4), (dg b 3), (dg b 2), (dg b 1), (dg b 0), 72, 59, 32, 69, 78, 68, 32, 77, 46] (by kernel_rfl) (by kernel_rfl) rfl (al_all (by kernel_rfl)) (nal_ok (by kernel_rfl))
def o150 : Ob := (73, [.symS 170], .ret (.tup [.agg [.int .i64 2, .str [67, 79, 78, 83, 84], .int .i64 0, .int .i64 0], .int .i64 5, .int .i64 0]))
theorem q150 (a b : Int) (H : Hy a b) : Ans (i0 a b) (s0 a b) o150 := by
  have H0 := H
  exact ans [⟨.idxStr (.c (.symS 170)) (.c (.int .i64 0)), .int .u8 67⟩]
    (⟨by kernel_rfl, trivial⟩)
    [o149]
    ⟨q149 a b H0, trivial⟩ (by kernel_rfl) (by kernel_rfl) (by kernel_rfl)
def o151 : Ob := (69, [.symS 171, .str [32, 9, 10, 13]], .ret (.symS 172))
theorem q151 (a b : Int) (H : Hy a b) : Ans (i0 a b) (s0 a b) o151 := by
  have H0 := H
  exact ans [⟨.bin .eql (.c (.symS 171)) (.c (.str [])), .bool false⟩,
    ⟨.len true (.c (.symS 171)), .int .i64 38⟩,
    ⟨.idxStr (.c (.symS 171)) (.c (.int .i64 0)), .int .u8 32⟩,
    ⟨.slcStr (.c (.symS 171)) (some (.c (.int .i64 1))) none, .symS 172⟩,
    ⟨.len true (.c (.symS 172)), .int .i64 37⟩,
    ⟨.idxStr (.c (.symS 172)) (.c (.int .i64 0)), .int .u8 99⟩]
    (⟨by kernel_rfl, ⟨by kernel_rfl, ⟨by kernel_rfl, ⟨by kernel_rfl, ⟨by kernel_rfl, ⟨by kernel_rfl, trivial⟩⟩⟩⟩⟩⟩)
    []
    trivial (by kernel_rfl) (by kernel_rfl) (by kernel_rfl)
def o152 : Ob := (70, [.symS 172, .str [40, 42]], .ret (.bool false))
theorem q152 (a b : Int) (H : Hy a b) : Ans (i0 a b) (s0 a b) o152 := by
  have H0 := H
  exact ans [⟨.len true (.c (.symS 172)), .int .i64 37⟩,
    ⟨.slcStr (.c (.symS 172)) none (some (.c (.int .i64 2))), .str [99, 32]⟩]
    (⟨by kernel_rfl, ⟨by kernel_rfl, trivial⟩⟩)
    []
    trivial (by kernel_rfl) (by kernel_rfl) (by kernel_rfl)
def o153 : Ob := (129, [.symS 172], .ret (.str [99]))
theorem q153 (a b : Int) (H : Hy a b) : Ans (i0 a b) (s0 a b) o153 := by
  show Ans (i0 a b) (s0 a b) (129, [.symS 172], .ret (.str [99]))
  letI := bare (i0 a b) (s0 a b)
  exact word_ob [99] [32, 61, 32, 48, (dg a 7), (dg a 6), (dg a 5), (dg a 4), (dg a 3), (dg a 2), (dg a 1), (dg a 0), 72, 32, 68, 73, 86, 32, 48, (dg b 7), (dg b 6), (dg b 5), (dg b 4), (dg b 3), (dg b 2), (dg b 1), (dg b 0), 72, 59, 32, 69, 78, 68, 32, 77, 46] (by kernel_rfl) (by kernel_rfl) rfl (al_all (by kernel_rfl)) (nal_ok (by kernel_rfl))
def o154 : Ob := (73, [.symS 172], .ret (.tup [.agg [.int .i64 1, .str [99], .int .i64 0, .int .i64 0], .int .i64 1, .int .i64 0]))
theorem q154 (a b : Int) (H : Hy a b) : Ans (i0 a b) (s0 a b) o154 := by
  have H0 := H
  exact ans [⟨.idxStr (.c (.symS 172)) (.c (.int .i64 0)), .int .u8 99⟩]
    (⟨by kernel_rfl, trivial⟩)
    [o153]
    ⟨q153 a b H0, trivial⟩ (by kernel_rfl) (by kernel_rfl) (by kernel_rfl)
def o155 : Ob := (69, [.symS 173, .str [32, 9, 10, 13]], .ret (.symS 174))
theorem q155 (a b : Int) (H : Hy a b) : Ans (i0 a b) (s0 a b) o155 := by
  have H0 := H
  exact ans [⟨.bin .eql (.c (.symS 173)) (.c (.str [])), .bool false⟩,
    ⟨.len true (.c (.symS 173)), .int .i64 36⟩,
    ⟨.idxStr (.c (.symS 173)) (.c (.int .i64 0)), .int .u8 32⟩,
    ⟨.slcStr (.c (.symS 173)) (some (.c (.int .i64 1))) none, .symS 174⟩,
    ⟨.len true (.c (.symS 174)), .int .i64 35⟩,
    ⟨.idxStr (.c (.symS 174)) (.c (.int .i64 0)), .int .u8 61⟩]
    (⟨by kernel_rfl, ⟨by kernel_rfl, ⟨by kernel_rfl, ⟨by kernel_rfl, ⟨by kernel_rfl, ⟨by kernel_rfl, trivial⟩⟩⟩⟩⟩⟩)
    []
    trivial (by kernel_rfl) (by kernel_rfl) (by kernel_rfl)
def o156 : Ob := (70, [.symS 174, .str [40, 42]], .ret (.bool false))
theorem q156 (a b : Int) (H : Hy a b) : Ans (i0 a b) (s0 a b) o156 := by
  have H0 := H
  exact ans [⟨.len true (.c (.symS 174)), .int .i64 35⟩,
    ⟨.slcStr (.c (.symS 174)) none (some (.c (.int .i64 2))), .str [61, 32]⟩]
    (⟨by kernel_rfl, ⟨by kernel_rfl, trivial⟩⟩)
    []
    trivial (by kernel_rfl) (by kernel_rfl) (by kernel_rfl)
def o157 : Ob := (129, [.symS 174], .ret (.str []))
theorem q157 (a b : Int) (H : Hy a b) : Ans (i0 a b) (s0 a b) o157 := by
  show Ans (i0 a b) (s0 a b) (129, [.symS 174], .ret (.str []))
  letI := bare (i0 a b) (s0 a b)
  exact word_ob [] [61, 32, 48, (dg a 7), (dg a 6), (dg a 5), (dg a 4), (dg a 3), (dg a 2), (dg a 1), (dg a 0), 72, 32, 68, 73, 86, 32, 48, (dg b 7), (dg b 6), (dg b 5), (dg b 4), (dg b 3), (dg b 2), (dg b 1), (dg b 0), 72, 59, 32, 69, 78, 68, 32, 77, 46] (by kernel_rfl) (by kernel_rfl) rfl (al_all (by kernel_rfl)) (nal_ok (by kernel_rfl))
def o158 : Ob := (73, [.symS 174], .ret (.tup [.agg [.int .i64 6, .str [61], .int .i64 0, .int .i64 0], .int .i64 1, .int .i64 0]))
theorem q158 (a b : Int) (H : Hy a b) : Ans (i0 a b) (s0 a b) o158 := by
  have H0 := H
  exact ans [⟨.idxStr (.c (.symS 174)) (.c (.int .i64 0)), .int .u8 61⟩,
    ⟨.len true (.c (.symS 174)), .int .i64 35⟩,
    ⟨.slcStr (.c (.symS 174)) none (some (.c (.int .i64 2))), .str [61, 32]⟩,
    ⟨.slcStr (.c (.symS 174)) none (some (.c (.int .i64 1))), .str [61]⟩]
    (⟨by kernel_rfl, ⟨by kernel_rfl, ⟨by kernel_rfl, ⟨by kernel_rfl, trivial⟩⟩⟩⟩)
    [o157,
    o27]
    ⟨q157 a b H0, ⟨q27 a b H0, trivial⟩⟩ (by kernel_rfl) (by kernel_rfl) (by kernel_rfl)
def o159 : Ob := (69, [.symS 175, .str [32, 9, 10, 13]], .ret (.symS 176))
theorem q159 (a b : Int) (H : Hy a b) : Ans (i0 a b) (s0 a b) o159 := by
  have H0 := H
  exact ans [⟨.bin .eql (.c (.symS 175)) (.c (.str [])), .bool false⟩,
    ⟨.len true (.c (.symS 175)), .int .i64 34⟩,
    ⟨.idxStr (.c (.symS 175)) (.c (.int .i64 0)), .int .u8 32⟩,
    ⟨.slcStr (.c (.symS 175)) (some (.c (.int .i64 1))) none, .symS 176⟩,
    ⟨.len true (.c (.symS 176)), .int .i64 33⟩,
    ⟨.idxStr (.c (.symS 176)) (.c (.int .i64 0)), .int .u8 48⟩]
    (⟨by kernel_rfl, ⟨by kernel_rfl, ⟨by kernel_rfl, ⟨by kernel_rfl, ⟨by kernel_rfl, ⟨by kernel_rfl, trivial⟩⟩⟩⟩⟩⟩)
    []
    trivial (by kernel_rfl) (by kernel_rfl) (by kernel_rfl)
def o160 : Ob := (70, [.symS 176, .str [40, 42]], .ret (.bool false))
theorem q160 (a b : Int) (H : Hy a b) : Ans (i0 a b) (s0 a b) o160 := by
  have H0 := H
  exact ans [⟨.len true (.c (.symS 176)), .int .i64 33⟩,
    ⟨.slcStr (.c (.symS 176)) none (some (.c (.int .i64 2))), .symS 56⟩,
    ⟨.bin .eql (.c (.symS 56)) (.c (.str [40, 42])), .bool false⟩]
    (⟨by kernel_rfl, ⟨by kernel_rfl, ⟨by kernel_rfl, trivial⟩⟩⟩)
    []
    trivial (by kernel_rfl) (by kernel_rfl) (by kernel_rfl)
def o161 : Ob := (129, [.symS 176], .ret (.symS 0))
theorem q161 (a b : Int) (H : Hy a b) : Ans (i0 a b) (s0 a b) o161 := by
  show Ans (i0 a b) (s0 a b) (129, [.symS 176], .ret (.symS 0))
  letI := bare (i0 a b) (s0 a b)
  exact word_ob (dgs a ++ [72]) [32, 68, 73, 86, 32, 48, (dg b 7), (dg b 6), (dg b 5), (dg b 4), (dg b 3), (dg b 2), (dg b 1), (dg b 0), 72, 59, 32, 69, 78, 68, 32, 77, 46] (by kernel_rfl) (by kernel_rfl) rfl (dgs_alnum a) (nal_ok (by kernel_rfl))
end Go.Proofs.Tryz.Vc
