/- The answer of shown. -/
import Derived.Test.YtokbomdlodainaaGreatDoorVcS
set_option linter.all false
namespace Go.Proofs.Tryz.Vc
open Go Go.Proofs Go.Ve
set_option maxRecDepth 100000
set_option maxHeartbeats 4000000
theorem k1000 (i : Nat → Int) (s : Nat → List UInt8) : Ans i s (69, [.str [77, 79, 68, 85, 76, 69, 32, 77, 59, 32, 86, 65, 82, 32, 97, 58, 32, 73, 78, 84, 69, 71, 69, 82, 59, 32, 66, 69, 71, 73, 78, 32, 97, 32, 58, 61, 32, 49, 32, 43, 32, 50, 32, 42, 32, 51, 32, 69, 78, 68, 32, 77, 46], .str [32, 9, 10, 13]], .ret (.str [77, 79, 68, 85, 76, 69, 32, 77, 59, 32, 86, 65, 82, 32, 97, 58, 32, 73, 78, 84, 69, 71, 69, 82, 59, 32, 66, 69, 71, 73, 78, 32, 97, 32, 58, 61, 32, 49, 32, 43, 32, 50, 32, 42, 32, 51, 32, 69, 78, 68, 32, 77, 46])) := by
  exact ans [] trivial
    []
    trivial (by kernel_rfl) (by kernel_rfl) (by kernel_rfl)
theorem k1001 (i : Nat → Int) (s : Nat → List UInt8) : Ans i s (73, [.str [77, 79, 68, 85, 76, 69, 32, 77, 59, 32, 86, 65, 82, 32, 97, 58, 32, 73, 78, 84, 69, 71, 69, 82, 59, 32, 66, 69, 71, 73, 78, 32, 97, 32, 58, 61, 32, 49, 32, 43, 32, 50, 32, 42, 32, 51, 32, 69, 78, 68, 32, 77, 46]], .ret (.tup [.agg [.int .i64 2, .str [77, 79, 68, 85, 76, 69], .int .i64 0, .int .i64 0], .int .i64 6, .int .i64 0])) := by
  exact ans [] trivial
    []
    trivial (by kernel_rfl) (by kernel_rfl) (by kernel_rfl)
theorem k1002 (i : Nat → Int) (s : Nat → List UInt8) : Ans i s (69, [.str [32, 77, 59, 32, 86, 65, 82, 32, 97, 58, 32, 73, 78, 84, 69, 71, 69, 82, 59, 32, 66, 69, 71, 73, 78, 32, 97, 32, 58, 61, 32, 49, 32, 43, 32, 50, 32, 42, 32, 51, 32, 69, 78, 68, 32, 77, 46], .str [32, 9, 10, 13]], .ret (.str [77, 59, 32, 86, 65, 82, 32, 97, 58, 32, 73, 78, 84, 69, 71, 69, 82, 59, 32, 66, 69, 71, 73, 78, 32, 97, 32, 58, 61, 32, 49, 32, 43, 32, 50, 32, 42, 32, 51, 32, 69, 78, 68, 32, 77, 46])) := by
  exact ans [] trivial
    []
    trivial (by kernel_rfl) (by kernel_rfl) (by kernel_rfl)
theorem k1003 (i : Nat → Int) (s : Nat → List UInt8) : Ans i s (73, [.str [77, 59, 32, 86, 65, 82, 32, 97, 58, 32, 73, 78, 84, 69, 71, 69, 82, 59, 32, 66, 69, 71, 73, 78, 32, 97, 32, 58, 61, 32, 49, 32, 43, 32, 50, 32, 42, 32, 51, 32, 69, 78, 68, 32, 77, 46]], .ret (.tup [.agg [.int .i64 1, .str [77], .int .i64 0, .int .i64 0], .int .i64 1, .int .i64 0])) := by
  exact ans [] trivial
    []
    trivial (by kernel_rfl) (by kernel_rfl) (by kernel_rfl)
theorem k1004 (i : Nat → Int) (s : Nat → List UInt8) : Ans i s (69, [.str [59, 32, 86, 65, 82, 32, 97, 58, 32, 73, 78, 84, 69, 71, 69, 82, 59, 32, 66, 69, 71, 73, 78, 32, 97, 32, 58, 61, 32, 49, 32, 43, 32, 50, 32, 42, 32, 51, 32, 69, 78, 68, 32, 77, 46], .str [32, 9, 10, 13]], .ret (.str [59, 32, 86, 65, 82, 32, 97, 58, 32, 73, 78, 84, 69, 71, 69, 82, 59, 32, 66, 69, 71, 73, 78, 32, 97, 32, 58, 61, 32, 49, 32, 43, 32, 50, 32, 42, 32, 51, 32, 69, 78, 68, 32, 77, 46])) := by
  exact ans [] trivial
    []
    trivial (by kernel_rfl) (by kernel_rfl) (by kernel_rfl)
theorem k1005 (i : Nat → Int) (s : Nat → List UInt8) : Ans i s (224, [.str [43, 45, 42, 47, 126, 38, 46, 44, 59, 124, 40, 41, 91, 93, 123, 125, 58, 94, 61, 35, 60, 62], .int .u8 59], .ret (.int .i64 8)) := by
  letI := bare i s
  exact index_ob _ _ _ (by kernel_rfl)
theorem k1006 (i : Nat → Int) (s : Nat → List UInt8) : Ans i s (73, [.str [59, 32, 86, 65, 82, 32, 97, 58, 32, 73, 78, 84, 69, 71, 69, 82, 59, 32, 66, 69, 71, 73, 78, 32, 97, 32, 58, 61, 32, 49, 32, 43, 32, 50, 32, 42, 32, 51, 32, 69, 78, 68, 32, 77, 46]], .ret (.tup [.agg [.int .i64 6, .str [59], .int .i64 0, .int .i64 0], .int .i64 1, .int .i64 0])) := by
  exact ans [] trivial
    [(224, [.str [43, 45, 42, 47, 126, 38, 46, 44, 59, 124, 40, 41, 91, 93, 123, 125, 58, 94, 61, 35, 60, 62], .int .u8 59], .ret (.int .i64 8))]
    ⟨k1005 i s, trivial⟩ (by kernel_rfl) (by kernel_rfl) (by kernel_rfl)
theorem k1007 (i : Nat → Int) (s : Nat → List UInt8) : Ans i s (69, [.str [32, 86, 65, 82, 32, 97, 58, 32, 73, 78, 84, 69, 71, 69, 82, 59, 32, 66, 69, 71, 73, 78, 32, 97, 32, 58, 61, 32, 49, 32, 43, 32, 50, 32, 42, 32, 51, 32, 69, 78, 68, 32, 77, 46], .str [32, 9, 10, 13]], .ret (.str [86, 65, 82, 32, 97, 58, 32, 73, 78, 84, 69, 71, 69, 82, 59, 32, 66, 69, 71, 73, 78, 32, 97, 32, 58, 61, 32, 49, 32, 43, 32, 50, 32, 42, 32, 51, 32, 69, 78, 68, 32, 77, 46])) := by
  exact ans [] trivial
    []
    trivial (by kernel_rfl) (by kernel_rfl) (by kernel_rfl)
theorem k1008 (i : Nat → Int) (s : Nat → List UInt8) : Ans i s (73, [.str [86, 65, 82, 32, 97, 58, 32, 73, 78, 84, 69, 71, 69, 82, 59, 32, 66, 69, 71, 73, 78, 32, 97, 32, 58, 61, 32, 49, 32, 43, 32, 50, 32, 42, 32, 51, 32, 69, 78, 68, 32, 77, 46]], .ret (.tup [.agg [.int .i64 2, .str [86, 65, 82], .int .i64 0, .int .i64 0], .int .i64 3, .int .i64 0])) := by
  exact ans [] trivial
    []
    trivial (by kernel_rfl) (by kernel_rfl) (by kernel_rfl)
theorem k1009 (i : Nat → Int) (s : Nat → List UInt8) : Ans i s (69, [.str [32, 97, 58, 32, 73, 78, 84, 69, 71, 69, 82, 59, 32, 66, 69, 71, 73, 78, 32, 97, 32, 58, 61, 32, 49, 32, 43, 32, 50, 32, 42, 32, 51, 32, 69, 78, 68, 32, 77, 46], .str [32, 9, 10, 13]], .ret (.str [97, 58, 32, 73, 78, 84, 69, 71, 69, 82, 59, 32, 66, 69, 71, 73, 78, 32, 97, 32, 58, 61, 32, 49, 32, 43, 32, 50, 32, 42, 32, 51, 32, 69, 78, 68, 32, 77, 46])) := by
  exact ans [] trivial
    []
    trivial (by kernel_rfl) (by kernel_rfl) (by kernel_rfl)
theorem k1010 (i : Nat → Int) (s : Nat → List UInt8) : Ans i s (73, [.str [97, 58, 32, 73, 78, 84, 69, 71, 69, 82, 59, 32, 66, 69, 71, 73, 78, 32, 97, 32, 58, 61, 32, 49, 32, 43, 32, 50, 32, 42, 32, 51, 32, 69, 78, 68, 32, 77, 46]], .ret (.tup [.agg [.int .i64 1, .str [97], .int .i64 0, .int .i64 0], .int .i64 1, .int .i64 0])) := by
  exact ans [] trivial
    []
    trivial (by kernel_rfl) (by kernel_rfl) (by kernel_rfl)
theorem k1011 (i : Nat → Int) (s : Nat → List UInt8) : Ans i s (69, [.str [58, 32, 73, 78, 84, 69, 71, 69, 82, 59, 32, 66, 69, 71, 73, 78, 32, 97, 32, 58, 61, 32, 49, 32, 43, 32, 50, 32, 42, 32, 51, 32, 69, 78, 68, 32, 77, 46], .str [32, 9, 10, 13]], .ret (.str [58, 32, 73, 78, 84, 69, 71, 69, 82, 59, 32, 66, 69, 71, 73, 78, 32, 97, 32, 58, 61, 32, 49, 32, 43, 32, 50, 32, 42, 32, 51, 32, 69, 78, 68, 32, 77, 46])) := by
  exact ans [] trivial
    []
    trivial (by kernel_rfl) (by kernel_rfl) (by kernel_rfl)
theorem k1012 (i : Nat → Int) (s : Nat → List UInt8) : Ans i s (224, [.str [43, 45, 42, 47, 126, 38, 46, 44, 59, 124, 40, 41, 91, 93, 123, 125, 58, 94, 61, 35, 60, 62], .int .u8 58], .ret (.int .i64 16)) := by
  letI := bare i s
  exact index_ob _ _ _ (by kernel_rfl)
theorem k1013 (i : Nat → Int) (s : Nat → List UInt8) : Ans i s (73, [.str [58, 32, 73, 78, 84, 69, 71, 69, 82, 59, 32, 66, 69, 71, 73, 78, 32, 97, 32, 58, 61, 32, 49, 32, 43, 32, 50, 32, 42, 32, 51, 32, 69, 78, 68, 32, 77, 46]], .ret (.tup [.agg [.int .i64 6, .str [58], .int .i64 0, .int .i64 0], .int .i64 1, .int .i64 0])) := by
  exact ans [] trivial
    [(224, [.str [43, 45, 42, 47, 126, 38, 46, 44, 59, 124, 40, 41, 91, 93, 123, 125, 58, 94, 61, 35, 60, 62], .int .u8 58], .ret (.int .i64 16))]
    ⟨k1012 i s, trivial⟩ (by kernel_rfl) (by kernel_rfl) (by kernel_rfl)
theorem k1014 (i : Nat → Int) (s : Nat → List UInt8) : Ans i s (69, [.str [32, 73, 78, 84, 69, 71, 69, 82, 59, 32, 66, 69, 71, 73, 78, 32, 97, 32, 58, 61, 32, 49, 32, 43, 32, 50, 32, 42, 32, 51, 32, 69, 78, 68, 32, 77, 46], .str [32, 9, 10, 13]], .ret (.str [73, 78, 84, 69, 71, 69, 82, 59, 32, 66, 69, 71, 73, 78, 32, 97, 32, 58, 61, 32, 49, 32, 43, 32, 50, 32, 42, 32, 51, 32, 69, 78, 68, 32, 77, 46])) := by
  exact ans [] trivial
    []
    trivial (by kernel_rfl) (by kernel_rfl) (by kernel_rfl)
theorem k1015 (i : Nat → Int) (s : Nat → List UInt8) : Ans i s (73, [.str [73, 78, 84, 69, 71, 69, 82, 59, 32, 66, 69, 71, 73, 78, 32, 97, 32, 58, 61, 32, 49, 32, 43, 32, 50, 32, 42, 32, 51, 32, 69, 78, 68, 32, 77, 46]], .ret (.tup [.agg [.int .i64 1, .str [73, 78, 84, 69, 71, 69, 82], .int .i64 0, .int .i64 0], .int .i64 7, .int .i64 0])) := by
  exact ans [] trivial
    []
    trivial (by kernel_rfl) (by kernel_rfl) (by kernel_rfl)
theorem k1016 (i : Nat → Int) (s : Nat → List UInt8) : Ans i s (69, [.str [59, 32, 66, 69, 71, 73, 78, 32, 97, 32, 58, 61, 32, 49, 32, 43, 32, 50, 32, 42, 32, 51, 32, 69, 78, 68, 32, 77, 46], .str [32, 9, 10, 13]], .ret (.str [59, 32, 66, 69, 71, 73, 78, 32, 97, 32, 58, 61, 32, 49, 32, 43, 32, 50, 32, 42, 32, 51, 32, 69, 78, 68, 32, 77, 46])) := by
  exact ans [] trivial
    []
    trivial (by kernel_rfl) (by kernel_rfl) (by kernel_rfl)
theorem k1017 (i : Nat → Int) (s : Nat → List UInt8) : Ans i s (73, [.str [59, 32, 66, 69, 71, 73, 78, 32, 97, 32, 58, 61, 32, 49, 32, 43, 32, 50, 32, 42, 32, 51, 32, 69, 78, 68, 32, 77, 46]], .ret (.tup [.agg [.int .i64 6, .str [59], .int .i64 0, .int .i64 0], .int .i64 1, .int .i64 0])) := by
  exact ans [] trivial
    [(224, [.str [43, 45, 42, 47, 126, 38, 46, 44, 59, 124, 40, 41, 91, 93, 123, 125, 58, 94, 61, 35, 60, 62], .int .u8 59], .ret (.int .i64 8))]
    ⟨k1005 i s, trivial⟩ (by kernel_rfl) (by kernel_rfl) (by kernel_rfl)
theorem k1018 (i : Nat → Int) (s : Nat → List UInt8) : Ans i s (69, [.str [32, 66, 69, 71, 73, 78, 32, 97, 32, 58, 61, 32, 49, 32, 43, 32, 50, 32, 42, 32, 51, 32, 69, 78, 68, 32, 77, 46], .str [32, 9, 10, 13]], .ret (.str [66, 69, 71, 73, 78, 32, 97, 32, 58, 61, 32, 49, 32, 43, 32, 50, 32, 42, 32, 51, 32, 69, 78, 68, 32, 77, 46])) := by
  exact ans [] trivial
    []
    trivial (by kernel_rfl) (by kernel_rfl) (by kernel_rfl)
theorem k1019 (i : Nat → Int) (s : Nat → List UInt8) : Ans i s (73, [.str [66, 69, 71, 73, 78, 32, 97, 32, 58, 61, 32, 49, 32, 43, 32, 50, 32, 42, 32, 51, 32, 69, 78, 68, 32, 77, 46]], .ret (.tup [.agg [.int .i64 2, .str [66, 69, 71, 73, 78], .int .i64 0, .int .i64 0], .int .i64 5, .int .i64 0])) := by
  exact ans [] trivial
    []
    trivial (by kernel_rfl) (by kernel_rfl) (by kernel_rfl)
theorem k1020 (i : Nat → Int) (s : Nat → List UInt8) : Ans i s (69, [.str [32, 97, 32, 58, 61, 32, 49, 32, 43, 32, 50, 32, 42, 32, 51, 32, 69, 78, 68, 32, 77, 46], .str [32, 9, 10, 13]], .ret (.str [97, 32, 58, 61, 32, 49, 32, 43, 32, 50, 32, 42, 32, 51, 32, 69, 78, 68, 32, 77, 46])) := by
  exact ans [] trivial
    []
    trivial (by kernel_rfl) (by kernel_rfl) (by kernel_rfl)
theorem k1021 (i : Nat → Int) (s : Nat → List UInt8) : Ans i s (73, [.str [97, 32, 58, 61, 32, 49, 32, 43, 32, 50, 32, 42, 32, 51, 32, 69, 78, 68, 32, 77, 46]], .ret (.tup [.agg [.int .i64 1, .str [97], .int .i64 0, .int .i64 0], .int .i64 1, .int .i64 0])) := by
  exact ans [] trivial
    []
    trivial (by kernel_rfl) (by kernel_rfl) (by kernel_rfl)
theorem k1022 (i : Nat → Int) (s : Nat → List UInt8) : Ans i s (69, [.str [32, 58, 61, 32, 49, 32, 43, 32, 50, 32, 42, 32, 51, 32, 69, 78, 68, 32, 77, 46], .str [32, 9, 10, 13]], .ret (.str [58, 61, 32, 49, 32, 43, 32, 50, 32, 42, 32, 51, 32, 69, 78, 68, 32, 77, 46])) := by
  exact ans [] trivial
    []
    trivial (by kernel_rfl) (by kernel_rfl) (by kernel_rfl)
theorem k1023 (i : Nat → Int) (s : Nat → List UInt8) : Ans i s (73, [.str [58, 61, 32, 49, 32, 43, 32, 50, 32, 42, 32, 51, 32, 69, 78, 68, 32, 77, 46]], .ret (.tup [.agg [.int .i64 6, .str [58, 61], .int .i64 0, .int .i64 0], .int .i64 2, .int .i64 0])) := by
  exact ans [] trivial
    []
    trivial (by kernel_rfl) (by kernel_rfl) (by kernel_rfl)
theorem k1024 (i : Nat → Int) (s : Nat → List UInt8) : Ans i s (69, [.str [32, 49, 32, 43, 32, 50, 32, 42, 32, 51, 32, 69, 78, 68, 32, 77, 46], .str [32, 9, 10, 13]], .ret (.str [49, 32, 43, 32, 50, 32, 42, 32, 51, 32, 69, 78, 68, 32, 77, 46])) := by
  exact ans [] trivial
    []
    trivial (by kernel_rfl) (by kernel_rfl) (by kernel_rfl)
theorem k1025 (i : Nat → Int) (s : Nat → List UInt8) : Ans i s (215, [.str [49], .int .i64 10, .int .i64 64], .ret (.tup [.int .u64 1, .nili])) := by
  letI := bare i s
  exact parse10_ob [49] (by decide) (by decide) (by decide)
theorem k1026 (i : Nat → Int) (s : Nat → List UInt8) : Ans i s (133, [.str [49]], .ret (.tup [.agg [.int .i64 3, .str [], .int .i64 1, .int .i64 0], .int .i64 0])) := by
  exact ans [] trivial
    [(215, [.str [49], .int .i64 10, .int .i64 64], .ret (.tup [.int .u64 1, .nili]))]
    ⟨k1025 i s, trivial⟩ (by kernel_rfl) (by kernel_rfl) (by kernel_rfl)
theorem k1027 (i : Nat → Int) (s : Nat → List UInt8) : Ans i s (73, [.str [49, 32, 43, 32, 50, 32, 42, 32, 51, 32, 69, 78, 68, 32, 77, 46]], .ret (.tup [.agg [.int .i64 3, .str [], .int .i64 1, .int .i64 0], .int .i64 1, .int .i64 0])) := by
  exact ans [] trivial
    [(133, [.str [49]], .ret (.tup [.agg [.int .i64 3, .str [], .int .i64 1, .int .i64 0], .int .i64 0]))]
    ⟨k1026 i s, trivial⟩ (by kernel_rfl) (by kernel_rfl) (by kernel_rfl)
theorem k1028 (i : Nat → Int) (s : Nat → List UInt8) : Ans i s (69, [.str [32, 43, 32, 50, 32, 42, 32, 51, 32, 69, 78, 68, 32, 77, 46], .str [32, 9, 10, 13]], .ret (.str [43, 32, 50, 32, 42, 32, 51, 32, 69, 78, 68, 32, 77, 46])) := by
  exact ans [] trivial
    []
    trivial (by kernel_rfl) (by kernel_rfl) (by kernel_rfl)
theorem k1029 (i : Nat → Int) (s : Nat → List UInt8) : Ans i s (224, [.str [43, 45, 42, 47, 126, 38, 46, 44, 59, 124, 40, 41, 91, 93, 123, 125, 58, 94, 61, 35, 60, 62], .int .u8 43], .ret (.int .i64 0)) := by
  letI := bare i s
  exact index_ob _ _ _ (by kernel_rfl)
theorem k1030 (i : Nat → Int) (s : Nat → List UInt8) : Ans i s (73, [.str [43, 32, 50, 32, 42, 32, 51, 32, 69, 78, 68, 32, 77, 46]], .ret (.tup [.agg [.int .i64 6, .str [43], .int .i64 0, .int .i64 0], .int .i64 1, .int .i64 0])) := by
  exact ans [] trivial
    [(224, [.str [43, 45, 42, 47, 126, 38, 46, 44, 59, 124, 40, 41, 91, 93, 123, 125, 58, 94, 61, 35, 60, 62], .int .u8 43], .ret (.int .i64 0))]
    ⟨k1029 i s, trivial⟩ (by kernel_rfl) (by kernel_rfl) (by kernel_rfl)
theorem k1031 (i : Nat → Int) (s : Nat → List UInt8) : Ans i s (69, [.str [32, 50, 32, 42, 32, 51, 32, 69, 78, 68, 32, 77, 46], .str [32, 9, 10, 13]], .ret (.str [50, 32, 42, 32, 51, 32, 69, 78, 68, 32, 77, 46])) := by
  exact ans [] trivial
    []
    trivial (by kernel_rfl) (by kernel_rfl) (by kernel_rfl)
theorem k1032 (i : Nat → Int) (s : Nat → List UInt8) : Ans i s (215, [.str [50], .int .i64 10, .int .i64 64], .ret (.tup [.int .u64 2, .nili])) := by
  letI := bare i s
  exact parse10_ob [50] (by decide) (by decide) (by decide)
theorem k1033 (i : Nat → Int) (s : Nat → List UInt8) : Ans i s (133, [.str [50]], .ret (.tup [.agg [.int .i64 3, .str [], .int .i64 2, .int .i64 0], .int .i64 0])) := by
  exact ans [] trivial
    [(215, [.str [50], .int .i64 10, .int .i64 64], .ret (.tup [.int .u64 2, .nili]))]
    ⟨k1032 i s, trivial⟩ (by kernel_rfl) (by kernel_rfl) (by kernel_rfl)
theorem k1034 (i : Nat → Int) (s : Nat → List UInt8) : Ans i s (73, [.str [50, 32, 42, 32, 51, 32, 69, 78, 68, 32, 77, 46]], .ret (.tup [.agg [.int .i64 3, .str [], .int .i64 2, .int .i64 0], .int .i64 1, .int .i64 0])) := by
  exact ans [] trivial
    [(133, [.str [50]], .ret (.tup [.agg [.int .i64 3, .str [], .int .i64 2, .int .i64 0], .int .i64 0]))]
    ⟨k1033 i s, trivial⟩ (by kernel_rfl) (by kernel_rfl) (by kernel_rfl)
theorem k1035 (i : Nat → Int) (s : Nat → List UInt8) : Ans i s (69, [.str [32, 42, 32, 51, 32, 69, 78, 68, 32, 77, 46], .str [32, 9, 10, 13]], .ret (.str [42, 32, 51, 32, 69, 78, 68, 32, 77, 46])) := by
  exact ans [] trivial
    []
    trivial (by kernel_rfl) (by kernel_rfl) (by kernel_rfl)
theorem k1036 (i : Nat → Int) (s : Nat → List UInt8) : Ans i s (224, [.str [43, 45, 42, 47, 126, 38, 46, 44, 59, 124, 40, 41, 91, 93, 123, 125, 58, 94, 61, 35, 60, 62], .int .u8 42], .ret (.int .i64 2)) := by
  letI := bare i s
  exact index_ob _ _ _ (by kernel_rfl)
theorem k1037 (i : Nat → Int) (s : Nat → List UInt8) : Ans i s (73, [.str [42, 32, 51, 32, 69, 78, 68, 32, 77, 46]], .ret (.tup [.agg [.int .i64 6, .str [42], .int .i64 0, .int .i64 0], .int .i64 1, .int .i64 0])) := by
  exact ans [] trivial
    [(224, [.str [43, 45, 42, 47, 126, 38, 46, 44, 59, 124, 40, 41, 91, 93, 123, 125, 58, 94, 61, 35, 60, 62], .int .u8 42], .ret (.int .i64 2))]
    ⟨k1036 i s, trivial⟩ (by kernel_rfl) (by kernel_rfl) (by kernel_rfl)
theorem k1038 (i : Nat → Int) (s : Nat → List UInt8) : Ans i s (69, [.str [32, 51, 32, 69, 78, 68, 32, 77, 46], .str [32, 9, 10, 13]], .ret (.str [51, 32, 69, 78, 68, 32, 77, 46])) := by
  exact ans [] trivial
    []
    trivial (by kernel_rfl) (by kernel_rfl) (by kernel_rfl)
theorem k1039 (i : Nat → Int) (s : Nat → List UInt8) : Ans i s (215, [.str [51], .int .i64 10, .int .i64 64], .ret (.tup [.int .u64 3, .nili])) := by
  letI := bare i s
  exact parse10_ob [51] (by decide) (by decide) (by decide)
theorem k1040 (i : Nat → Int) (s : Nat → List UInt8) : Ans i s (133, [.str [51]], .ret (.tup [.agg [.int .i64 3, .str [], .int .i64 3, .int .i64 0], .int .i64 0])) := by
  exact ans [] trivial
    [(215, [.str [51], .int .i64 10, .int .i64 64], .ret (.tup [.int .u64 3, .nili]))]
    ⟨k1039 i s, trivial⟩ (by kernel_rfl) (by kernel_rfl) (by kernel_rfl)
theorem k1041 (i : Nat → Int) (s : Nat → List UInt8) : Ans i s (73, [.str [51, 32, 69, 78, 68, 32, 77, 46]], .ret (.tup [.agg [.int .i64 3, .str [], .int .i64 3, .int .i64 0], .int .i64 1, .int .i64 0])) := by
  exact ans [] trivial
    [(133, [.str [51]], .ret (.tup [.agg [.int .i64 3, .str [], .int .i64 3, .int .i64 0], .int .i64 0]))]
    ⟨k1040 i s, trivial⟩ (by kernel_rfl) (by kernel_rfl) (by kernel_rfl)
theorem k1042 (i : Nat → Int) (s : Nat → List UInt8) : Ans i s (69, [.str [32, 69, 78, 68, 32, 77, 46], .str [32, 9, 10, 13]], .ret (.str [69, 78, 68, 32, 77, 46])) := by
  exact ans [] trivial
    []
    trivial (by kernel_rfl) (by kernel_rfl) (by kernel_rfl)
theorem k1043 (i : Nat → Int) (s : Nat → List UInt8) : Ans i s (73, [.str [69, 78, 68, 32, 77, 46]], .ret (.tup [.agg [.int .i64 2, .str [69, 78, 68], .int .i64 0, .int .i64 0], .int .i64 3, .int .i64 0])) := by
  exact ans [] trivial
    []
    trivial (by kernel_rfl) (by kernel_rfl) (by kernel_rfl)
theorem k1044 (i : Nat → Int) (s : Nat → List UInt8) : Ans i s (69, [.str [32, 77, 46], .str [32, 9, 10, 13]], .ret (.str [77, 46])) := by
  exact ans [] trivial
    []
    trivial (by kernel_rfl) (by kernel_rfl) (by kernel_rfl)
theorem k1045 (i : Nat → Int) (s : Nat → List UInt8) : Ans i s (73, [.str [77, 46]], .ret (.tup [.agg [.int .i64 1, .str [77], .int .i64 0, .int .i64 0], .int .i64 1, .int .i64 0])) := by
  exact ans [] trivial
    []
    trivial (by kernel_rfl) (by kernel_rfl) (by kernel_rfl)
theorem k1046 (i : Nat → Int) (s : Nat → List UInt8) : Ans i s (69, [.str [46], .str [32, 9, 10, 13]], .ret (.str [46])) := by
  exact ans [] trivial
    []
    trivial (by kernel_rfl) (by kernel_rfl) (by kernel_rfl)
theorem k1047 (i : Nat → Int) (s : Nat → List UInt8) : Ans i s (224, [.str [43, 45, 42, 47, 126, 38, 46, 44, 59, 124, 40, 41, 91, 93, 123, 125, 58, 94, 61, 35, 60, 62], .int .u8 46], .ret (.int .i64 6)) := by
  letI := bare i s
  exact index_ob _ _ _ (by kernel_rfl)
theorem k1048 (i : Nat → Int) (s : Nat → List UInt8) : Ans i s (73, [.str [46]], .ret (.tup [.agg [.int .i64 6, .str [46], .int .i64 0, .int .i64 0], .int .i64 1, .int .i64 0])) := by
  exact ans [] trivial
    [(224, [.str [43, 45, 42, 47, 126, 38, 46, 44, 59, 124, 40, 41, 91, 93, 123, 125, 58, 94, 61, 35, 60, 62], .int .u8 46], .ret (.int .i64 6))]
    ⟨k1047 i s, trivial⟩ (by kernel_rfl) (by kernel_rfl) (by kernel_rfl)
theorem k1049 (i : Nat → Int) (s : Nat → List UInt8) : Ans i s (69, [.str [], .str [32, 9, 10, 13]], .ret (.str [])) := by
  exact ans [] trivial
    []
    trivial (by kernel_rfl) (by kernel_rfl) (by kernel_rfl)
theorem k1050 (i : Nat → Int) (s : Nat → List UInt8) : Ans i s (22, [.str [77, 79, 68, 85, 76, 69, 32, 77, 59, 32, 86, 65, 82, 32, 97, 58, 32, 73, 78, 84, 69, 71, 69, 82, 59, 32, 66, 69, 71, 73, 78, 32, 97, 32, 58, 61, 32, 49, 32, 43, 32, 50, 32, 42, 32, 51, 32, 69, 78, 68, 32, 77, 46]], .ret (.tup [.sl [] [.agg [.int .i64 2, .str [77, 79, 68, 85, 76, 69], .int .i64 0, .int .i64 0], .agg [.int .i64 1, .str [77], .int .i64 0, .int .i64 7], .agg [.int .i64 6, .str [59], .int .i64 0, .int .i64 8], .agg [.int .i64 2, .str [86, 65, 82], .int .i64 0, .int .i64 10], .agg [.int .i64 1, .str [97], .int .i64 0, .int .i64 14], .agg [.int .i64 6, .str [58], .int .i64 0, .int .i64 15], .agg [.int .i64 1, .str [73, 78, 84, 69, 71, 69, 82], .int .i64 0, .int .i64 17], .agg [.int .i64 6, .str [59], .int .i64 0, .int .i64 24], .agg [.int .i64 2, .str [66, 69, 71, 73, 78], .int .i64 0, .int .i64 26], .agg [.int .i64 1, .str [97], .int .i64 0, .int .i64 32], .agg [.int .i64 6, .str [58, 61], .int .i64 0, .int .i64 34], .agg [.int .i64 3, .str [], .int .i64 1, .int .i64 37], .agg [.int .i64 6, .str [43], .int .i64 0, .int .i64 39], .agg [.int .i64 3, .str [], .int .i64 2, .int .i64 41], .agg [.int .i64 6, .str [42], .int .i64 0, .int .i64 43], .agg [.int .i64 3, .str [], .int .i64 3, .int .i64 45], .agg [.int .i64 2, .str [69, 78, 68], .int .i64 0, .int .i64 47], .agg [.int .i64 1, .str [77], .int .i64 0, .int .i64 51], .agg [.int .i64 6, .str [46], .int .i64 0, .int .i64 52], .agg [.int .i64 0, .str [], .int .i64 0, .int .i64 53]], .int .i64 0, .int .i64 0])) := by
  exact ans [] trivial
    [(69, [.str [77, 79, 68, 85, 76, 69, 32, 77, 59, 32, 86, 65, 82, 32, 97, 58, 32, 73, 78, 84, 69, 71, 69, 82, 59, 32, 66, 69, 71, 73, 78, 32, 97, 32, 58, 61, 32, 49, 32, 43, 32, 50, 32, 42, 32, 51, 32, 69, 78, 68, 32, 77, 46], .str [32, 9, 10, 13]], .ret (.str [77, 79, 68, 85, 76, 69, 32, 77, 59, 32, 86, 65, 82, 32, 97, 58, 32, 73, 78, 84, 69, 71, 69, 82, 59, 32, 66, 69, 71, 73, 78, 32, 97, 32, 58, 61, 32, 49, 32, 43, 32, 50, 32, 42, 32, 51, 32, 69, 78, 68, 32, 77, 46])),
    (73, [.str [77, 79, 68, 85, 76, 69, 32, 77, 59, 32, 86, 65, 82, 32, 97, 58, 32, 73, 78, 84, 69, 71, 69, 82, 59, 32, 66, 69, 71, 73, 78, 32, 97, 32, 58, 61, 32, 49, 32, 43, 32, 50, 32, 42, 32, 51, 32, 69, 78, 68, 32, 77, 46]], .ret (.tup [.agg [.int .i64 2, .str [77, 79, 68, 85, 76, 69], .int .i64 0, .int .i64 0], .int .i64 6, .int .i64 0])),
    (69, [.str [32, 77, 59, 32, 86, 65, 82, 32, 97, 58, 32, 73, 78, 84, 69, 71, 69, 82, 59, 32, 66, 69, 71, 73, 78, 32, 97, 32, 58, 61, 32, 49, 32, 43, 32, 50, 32, 42, 32, 51, 32, 69, 78, 68, 32, 77, 46], .str [32, 9, 10, 13]], .ret (.str [77, 59, 32, 86, 65, 82, 32, 97, 58, 32, 73, 78, 84, 69, 71, 69, 82, 59, 32, 66, 69, 71, 73, 78, 32, 97, 32, 58, 61, 32, 49, 32, 43, 32, 50, 32, 42, 32, 51, 32, 69, 78, 68, 32, 77, 46])),
    (73, [.str [77, 59, 32, 86, 65, 82, 32, 97, 58, 32, 73, 78, 84, 69, 71, 69, 82, 59, 32, 66, 69, 71, 73, 78, 32, 97, 32, 58, 61, 32, 49, 32, 43, 32, 50, 32, 42, 32, 51, 32, 69, 78, 68, 32, 77, 46]], .ret (.tup [.agg [.int .i64 1, .str [77], .int .i64 0, .int .i64 0], .int .i64 1, .int .i64 0])),
    (69, [.str [59, 32, 86, 65, 82, 32, 97, 58, 32, 73, 78, 84, 69, 71, 69, 82, 59, 32, 66, 69, 71, 73, 78, 32, 97, 32, 58, 61, 32, 49, 32, 43, 32, 50, 32, 42, 32, 51, 32, 69, 78, 68, 32, 77, 46], .str [32, 9, 10, 13]], .ret (.str [59, 32, 86, 65, 82, 32, 97, 58, 32, 73, 78, 84, 69, 71, 69, 82, 59, 32, 66, 69, 71, 73, 78, 32, 97, 32, 58, 61, 32, 49, 32, 43, 32, 50, 32, 42, 32, 51, 32, 69, 78, 68, 32, 77, 46])),
    (73, [.str [59, 32, 86, 65, 82, 32, 97, 58, 32, 73, 78, 84, 69, 71, 69, 82, 59, 32, 66, 69, 71, 73, 78, 32, 97, 32, 58, 61, 32, 49, 32, 43, 32, 50, 32, 42, 32, 51, 32, 69, 78, 68, 32, 77, 46]], .ret (.tup [.agg [.int .i64 6, .str [59], .int .i64 0, .int .i64 0], .int .i64 1, .int .i64 0])),
    (69, [.str [32, 86, 65, 82, 32, 97, 58, 32, 73, 78, 84, 69, 71, 69, 82, 59, 32, 66, 69, 71, 73, 78, 32, 97, 32, 58, 61, 32, 49, 32, 43, 32, 50, 32, 42, 32, 51, 32, 69, 78, 68, 32, 77, 46], .str [32, 9, 10, 13]], .ret (.str [86, 65, 82, 32, 97, 58, 32, 73, 78, 84, 69, 71, 69, 82, 59, 32, 66, 69, 71, 73, 78, 32, 97, 32, 58, 61, 32, 49, 32, 43, 32, 50, 32, 42, 32, 51, 32, 69, 78, 68, 32, 77, 46])),
    (73, [.str [86, 65, 82, 32, 97, 58, 32, 73, 78, 84, 69, 71, 69, 82, 59, 32, 66, 69, 71, 73, 78, 32, 97, 32, 58, 61, 32, 49, 32, 43, 32, 50, 32, 42, 32, 51, 32, 69, 78, 68, 32, 77, 46]], .ret (.tup [.agg [.int .i64 2, .str [86, 65, 82], .int .i64 0, .int .i64 0], .int .i64 3, .int .i64 0])),
    (69, [.str [32, 97, 58, 32, 73, 78, 84, 69, 71, 69, 82, 59, 32, 66, 69, 71, 73, 78, 32, 97, 32, 58, 61, 32, 49, 32, 43, 32, 50, 32, 42, 32, 51, 32, 69, 78, 68, 32, 77, 46], .str [32, 9, 10, 13]], .ret (.str [97, 58, 32, 73, 78, 84, 69, 71, 69, 82, 59, 32, 66, 69, 71, 73, 78, 32, 97, 32, 58, 61, 32, 49, 32, 43, 32, 50, 32, 42, 32, 51, 32, 69, 78, 68, 32, 77, 46])),
    (73, [.str [97, 58, 32, 73, 78, 84, 69, 71, 69, 82, 59, 32, 66, 69, 71, 73, 78, 32, 97, 32, 58, 61, 32, 49, 32, 43, 32, 50, 32, 42, 32, 51, 32, 69, 78, 68, 32, 77, 46]], .ret (.tup [.agg [.int .i64 1, .str [97], .int .i64 0, .int .i64 0], .int .i64 1, .int .i64 0])),
    (69, [.str [58, 32, 73, 78, 84, 69, 71, 69, 82, 59, 32, 66, 69, 71, 73, 78, 32, 97, 32, 58, 61, 32, 49, 32, 43, 32, 50, 32, 42, 32, 51, 32, 69, 78, 68, 32, 77, 46], .str [32, 9, 10, 13]], .ret (.str [58, 32, 73, 78, 84, 69, 71, 69, 82, 59, 32, 66, 69, 71, 73, 78, 32, 97, 32, 58, 61, 32, 49, 32, 43, 32, 50, 32, 42, 32, 51, 32, 69, 78, 68, 32, 77, 46])),
    (73, [.str [58, 32, 73, 78, 84, 69, 71, 69, 82, 59, 32, 66, 69, 71, 73, 78, 32, 97, 32, 58, 61, 32, 49, 32, 43, 32, 50, 32, 42, 32, 51, 32, 69, 78, 68, 32, 77, 46]], .ret (.tup [.agg [.int .i64 6, .str [58], .int .i64 0, .int .i64 0], .int .i64 1, .int .i64 0])),
    (69, [.str [32, 73, 78, 84, 69, 71, 69, 82, 59, 32, 66, 69, 71, 73, 78, 32, 97, 32, 58, 61, 32, 49, 32, 43, 32, 50, 32, 42, 32, 51, 32, 69, 78, 68, 32, 77, 46], .str [32, 9, 10, 13]], .ret (.str [73, 78, 84, 69, 71, 69, 82, 59, 32, 66, 69, 71, 73, 78, 32, 97, 32, 58, 61, 32, 49, 32, 43, 32, 50, 32, 42, 32, 51, 32, 69, 78, 68, 32, 77, 46])),
    (73, [.str [73, 78, 84, 69, 71, 69, 82, 59, 32, 66, 69, 71, 73, 78, 32, 97, 32, 58, 61, 32, 49, 32, 43, 32, 50, 32, 42, 32, 51, 32, 69, 78, 68, 32, 77, 46]], .ret (.tup [.agg [.int .i64 1, .str [73, 78, 84, 69, 71, 69, 82], .int .i64 0, .int .i64 0], .int .i64 7, .int .i64 0])),
    (69, [.str [59, 32, 66, 69, 71, 73, 78, 32, 97, 32, 58, 61, 32, 49, 32, 43, 32, 50, 32, 42, 32, 51, 32, 69, 78, 68, 32, 77, 46], .str [32, 9, 10, 13]], .ret (.str [59, 32, 66, 69, 71, 73, 78, 32, 97, 32, 58, 61, 32, 49, 32, 43, 32, 50, 32, 42, 32, 51, 32, 69, 78, 68, 32, 77, 46])),
    (73, [.str [59, 32, 66, 69, 71, 73, 78, 32, 97, 32, 58, 61, 32, 49, 32, 43, 32, 50, 32, 42, 32, 51, 32, 69, 78, 68, 32, 77, 46]], .ret (.tup [.agg [.int .i64 6, .str [59], .int .i64 0, .int .i64 0], .int .i64 1, .int .i64 0])),
    (69, [.str [32, 66, 69, 71, 73, 78, 32, 97, 32, 58, 61, 32, 49, 32, 43, 32, 50, 32, 42, 32, 51, 32, 69, 78, 68, 32, 77, 46], .str [32, 9, 10, 13]], .ret (.str [66, 69, 71, 73, 78, 32, 97, 32, 58, 61, 32, 49, 32, 43, 32, 50, 32, 42, 32, 51, 32, 69, 78, 68, 32, 77, 46])),
    (73, [.str [66, 69, 71, 73, 78, 32, 97, 32, 58, 61, 32, 49, 32, 43, 32, 50, 32, 42, 32, 51, 32, 69, 78, 68, 32, 77, 46]], .ret (.tup [.agg [.int .i64 2, .str [66, 69, 71, 73, 78], .int .i64 0, .int .i64 0], .int .i64 5, .int .i64 0])),
    (69, [.str [32, 97, 32, 58, 61, 32, 49, 32, 43, 32, 50, 32, 42, 32, 51, 32, 69, 78, 68, 32, 77, 46], .str [32, 9, 10, 13]], .ret (.str [97, 32, 58, 61, 32, 49, 32, 43, 32, 50, 32, 42, 32, 51, 32, 69, 78, 68, 32, 77, 46])),
    (73, [.str [97, 32, 58, 61, 32, 49, 32, 43, 32, 50, 32, 42, 32, 51, 32, 69, 78, 68, 32, 77, 46]], .ret (.tup [.agg [.int .i64 1, .str [97], .int .i64 0, .int .i64 0], .int .i64 1, .int .i64 0])),
    (69, [.str [32, 58, 61, 32, 49, 32, 43, 32, 50, 32, 42, 32, 51, 32, 69, 78, 68, 32, 77, 46], .str [32, 9, 10, 13]], .ret (.str [58, 61, 32, 49, 32, 43, 32, 50, 32, 42, 32, 51, 32, 69, 78, 68, 32, 77, 46])),
    (73, [.str [58, 61, 32, 49, 32, 43, 32, 50, 32, 42, 32, 51, 32, 69, 78, 68, 32, 77, 46]], .ret (.tup [.agg [.int .i64 6, .str [58, 61], .int .i64 0, .int .i64 0], .int .i64 2, .int .i64 0])),
    (69, [.str [32, 49, 32, 43, 32, 50, 32, 42, 32, 51, 32, 69, 78, 68, 32, 77, 46], .str [32, 9, 10, 13]], .ret (.str [49, 32, 43, 32, 50, 32, 42, 32, 51, 32, 69, 78, 68, 32, 77, 46])),
    (73, [.str [49, 32, 43, 32, 50, 32, 42, 32, 51, 32, 69, 78, 68, 32, 77, 46]], .ret (.tup [.agg [.int .i64 3, .str [], .int .i64 1, .int .i64 0], .int .i64 1, .int .i64 0])),
    (69, [.str [32, 43, 32, 50, 32, 42, 32, 51, 32, 69, 78, 68, 32, 77, 46], .str [32, 9, 10, 13]], .ret (.str [43, 32, 50, 32, 42, 32, 51, 32, 69, 78, 68, 32, 77, 46])),
    (73, [.str [43, 32, 50, 32, 42, 32, 51, 32, 69, 78, 68, 32, 77, 46]], .ret (.tup [.agg [.int .i64 6, .str [43], .int .i64 0, .int .i64 0], .int .i64 1, .int .i64 0])),
    (69, [.str [32, 50, 32, 42, 32, 51, 32, 69, 78, 68, 32, 77, 46], .str [32, 9, 10, 13]], .ret (.str [50, 32, 42, 32, 51, 32, 69, 78, 68, 32, 77, 46])),
    (73, [.str [50, 32, 42, 32, 51, 32, 69, 78, 68, 32, 77, 46]], .ret (.tup [.agg [.int .i64 3, .str [], .int .i64 2, .int .i64 0], .int .i64 1, .int .i64 0])),
    (69, [.str [32, 42, 32, 51, 32, 69, 78, 68, 32, 77, 46], .str [32, 9, 10, 13]], .ret (.str [42, 32, 51, 32, 69, 78, 68, 32, 77, 46])),
    (73, [.str [42, 32, 51, 32, 69, 78, 68, 32, 77, 46]], .ret (.tup [.agg [.int .i64 6, .str [42], .int .i64 0, .int .i64 0], .int .i64 1, .int .i64 0])),
    (69, [.str [32, 51, 32, 69, 78, 68, 32, 77, 46], .str [32, 9, 10, 13]], .ret (.str [51, 32, 69, 78, 68, 32, 77, 46])),
    (73, [.str [51, 32, 69, 78, 68, 32, 77, 46]], .ret (.tup [.agg [.int .i64 3, .str [], .int .i64 3, .int .i64 0], .int .i64 1, .int .i64 0])),
    (69, [.str [32, 69, 78, 68, 32, 77, 46], .str [32, 9, 10, 13]], .ret (.str [69, 78, 68, 32, 77, 46])),
    (73, [.str [69, 78, 68, 32, 77, 46]], .ret (.tup [.agg [.int .i64 2, .str [69, 78, 68], .int .i64 0, .int .i64 0], .int .i64 3, .int .i64 0])),
    (69, [.str [32, 77, 46], .str [32, 9, 10, 13]], .ret (.str [77, 46])),
    (73, [.str [77, 46]], .ret (.tup [.agg [.int .i64 1, .str [77], .int .i64 0, .int .i64 0], .int .i64 1, .int .i64 0])),
    (69, [.str [46], .str [32, 9, 10, 13]], .ret (.str [46])),
    (73, [.str [46]], .ret (.tup [.agg [.int .i64 6, .str [46], .int .i64 0, .int .i64 0], .int .i64 1, .int .i64 0])),
    (69, [.str [], .str [32, 9, 10, 13]], .ret (.str []))]
    ⟨k1000 i s, ⟨k1001 i s, ⟨k1002 i s, ⟨k1003 i s, ⟨k1004 i s, ⟨k1006 i s, ⟨k1007 i s, ⟨k1008 i s, ⟨k1009 i s, ⟨k1010 i s, ⟨k1011 i s, ⟨k1013 i s, ⟨k1014 i s, ⟨k1015 i s, ⟨k1016 i s, ⟨k1017 i s, ⟨k1018 i s, ⟨k1019 i s, ⟨k1020 i s, ⟨k1021 i s, ⟨k1022 i s, ⟨k1023 i s, ⟨k1024 i s, ⟨k1027 i s, ⟨k1028 i s, ⟨k1030 i s, ⟨k1031 i s, ⟨k1034 i s, ⟨k1035 i s, ⟨k1037 i s, ⟨k1038 i s, ⟨k1041 i s, ⟨k1042 i s, ⟨k1043 i s, ⟨k1044 i s, ⟨k1045 i s, ⟨k1046 i s, ⟨k1048 i s, ⟨k1049 i s, trivial⟩⟩⟩⟩⟩⟩⟩⟩⟩⟩⟩⟩⟩⟩⟩⟩⟩⟩⟩⟩⟩⟩⟩⟩⟩⟩⟩⟩⟩⟩⟩⟩⟩⟩⟩⟩⟩⟩⟩ (by kernel_rfl) (by kernel_rfl) (by kernel_rfl)
theorem k1051 (i : Nat → Int) (s : Nat → List UInt8) : Ans i s (7, [.str [77, 79, 68, 85, 76, 69, 32, 77, 59, 32, 86, 65, 82, 32, 97, 58, 32, 73, 78, 84, 69, 71, 69, 82, 59, 32, 66, 69, 71, 73, 78, 32, 97, 32, 58, 61, 32, 49, 32, 43, 32, 50, 32, 42, 32, 51, 32, 69, 78, 68, 32, 77, 46]], .ret (.tup [.agg [.int .i64 1, .str [77], .int .i64 0, .bool false, .sl [] [.agg [.int .i64 5, .str [], .int .i64 0, .bool false, .sl [] [.agg [.int .i64 9, .str [97], .int .i64 0, .bool false, .nils, .int .i64 14], .agg [.int .i64 10, .str [73, 78, 84, 69, 71, 69, 82], .int .i64 0, .bool false, .nils, .int .i64 17]], .int .i64 14], .agg [.int .i64 16, .str [], .int .i64 0, .bool false, .sl [] [.agg [.int .i64 17, .str [], .int .i64 0, .bool false, .sl [] [.agg [.int .i64 31, .str [97], .int .i64 0, .bool false, .nils, .int .i64 32], .agg [.int .i64 37, .str [43], .int .i64 0, .bool false, .sl [] [.agg [.int .i64 24, .str [], .int .i64 1, .bool false, .nils, .int .i64 37], .agg [.int .i64 37, .str [42], .int .i64 0, .bool false, .sl [] [.agg [.int .i64 24, .str [], .int .i64 2, .bool false, .nils, .int .i64 41], .agg [.int .i64 24, .str [], .int .i64 3, .bool false, .nils, .int .i64 45]], .int .i64 43]], .int .i64 39]], .int .i64 32]], .int .i64 32]], .int .i64 0], .int .i64 0, .int .i64 0])) := by
  exact ans [] trivial
    [(22, [.str [77, 79, 68, 85, 76, 69, 32, 77, 59, 32, 86, 65, 82, 32, 97, 58, 32, 73, 78, 84, 69, 71, 69, 82, 59, 32, 66, 69, 71, 73, 78, 32, 97, 32, 58, 61, 32, 49, 32, 43, 32, 50, 32, 42, 32, 51, 32, 69, 78, 68, 32, 77, 46]], .ret (.tup [.sl [] [.agg [.int .i64 2, .str [77, 79, 68, 85, 76, 69], .int .i64 0, .int .i64 0], .agg [.int .i64 1, .str [77], .int .i64 0, .int .i64 7], .agg [.int .i64 6, .str [59], .int .i64 0, .int .i64 8], .agg [.int .i64 2, .str [86, 65, 82], .int .i64 0, .int .i64 10], .agg [.int .i64 1, .str [97], .int .i64 0, .int .i64 14], .agg [.int .i64 6, .str [58], .int .i64 0, .int .i64 15], .agg [.int .i64 1, .str [73, 78, 84, 69, 71, 69, 82], .int .i64 0, .int .i64 17], .agg [.int .i64 6, .str [59], .int .i64 0, .int .i64 24], .agg [.int .i64 2, .str [66, 69, 71, 73, 78], .int .i64 0, .int .i64 26], .agg [.int .i64 1, .str [97], .int .i64 0, .int .i64 32], .agg [.int .i64 6, .str [58, 61], .int .i64 0, .int .i64 34], .agg [.int .i64 3, .str [], .int .i64 1, .int .i64 37], .agg [.int .i64 6, .str [43], .int .i64 0, .int .i64 39], .agg [.int .i64 3, .str [], .int .i64 2, .int .i64 41], .agg [.int .i64 6, .str [42], .int .i64 0, .int .i64 43], .agg [.int .i64 3, .str [], .int .i64 3, .int .i64 45], .agg [.int .i64 2, .str [69, 78, 68], .int .i64 0, .int .i64 47], .agg [.int .i64 1, .str [77], .int .i64 0, .int .i64 51], .agg [.int .i64 6, .str [46], .int .i64 0, .int .i64 52], .agg [.int .i64 0, .str [], .int .i64 0, .int .i64 53]], .int .i64 0, .int .i64 0]))]
    ⟨k1050 i s, trivial⟩ (by kernel_rfl) (by kernel_rfl) (by kernel_rfl)
theorem k1052 (i : Nat → Int) (s : Nat → List UInt8) : Ans i s (5, [.str [77, 79, 68, 85, 76, 69, 32, 77, 59, 32, 86, 65, 82, 32, 97, 58, 32, 73, 78, 84, 69, 71, 69, 82, 59, 32, 66, 69, 71, 73, 78, 32, 97, 32, 58, 61, 32, 49, 32, 43, 32, 50, 32, 42, 32, 51, 32, 69, 78, 68, 32, 77, 46], .nils], .ret (.tup [.agg [.str [77], .bool false, .nils, .nils, .sl [] [.agg [.int .i64 0, .int .i64 0, .int .i64 0, .int .i64 0, .nils, .int .i64 0, .int .i64 0], .agg [.int .i64 1, .int .i64 0, .int .i64 0, .int .i64 0, .nils, .int .i64 4, .int .i64 0], .agg [.int .i64 2, .int .i64 0, .int .i64 0, .int .i64 0, .nils, .int .i64 1, .int .i64 0], .agg [.int .i64 3, .int .i64 0, .int .i64 0, .int .i64 0, .nils, .int .i64 1, .int .i64 0], .agg [.int .i64 4, .int .i64 0, .int .i64 0, .int .i64 0, .nils, .int .i64 1, .int .i64 0], .agg [.int .i64 5, .int .i64 0, .int .i64 0, .int .i64 0, .nils, .int .i64 4, .int .i64 0], .agg [.int .i64 6, .int .i64 0, .int .i64 0, .int .i64 0, .nils, .int .i64 4, .int .i64 0], .agg [.int .i64 7, .int .i64 0, .int .i64 0, .int .i64 0, .nils, .int .i64 0, .int .i64 0]], .nils, .nils, .sl [] [.agg [.str [97], .int .i64 1, .bool false, .bool false]], .nils, .sl [] [.agg [.int .i64 1, .int .i64 0, .sl [] [.agg [.int .i64 3, .int .i64 1, .int .i64 (-1), .int .i64 0, .nils], .agg [.int .i64 1, .int .i64 1, .int .i64 0, .int .i64 7, .nils]], .nils]]], .int .i64 0, .int .i64 0])) := by
  exact ans [] trivial
    [(7, [.str [77, 79, 68, 85, 76, 69, 32, 77, 59, 32, 86, 65, 82, 32, 97, 58, 32, 73, 78, 84, 69, 71, 69, 82, 59, 32, 66, 69, 71, 73, 78, 32, 97, 32, 58, 61, 32, 49, 32, 43, 32, 50, 32, 42, 32, 51, 32, 69, 78, 68, 32, 77, 46]], .ret (.tup [.agg [.int .i64 1, .str [77], .int .i64 0, .bool false, .sl [] [.agg [.int .i64 5, .str [], .int .i64 0, .bool false, .sl [] [.agg [.int .i64 9, .str [97], .int .i64 0, .bool false, .nils, .int .i64 14], .agg [.int .i64 10, .str [73, 78, 84, 69, 71, 69, 82], .int .i64 0, .bool false, .nils, .int .i64 17]], .int .i64 14], .agg [.int .i64 16, .str [], .int .i64 0, .bool false, .sl [] [.agg [.int .i64 17, .str [], .int .i64 0, .bool false, .sl [] [.agg [.int .i64 31, .str [97], .int .i64 0, .bool false, .nils, .int .i64 32], .agg [.int .i64 37, .str [43], .int .i64 0, .bool false, .sl [] [.agg [.int .i64 24, .str [], .int .i64 1, .bool false, .nils, .int .i64 37], .agg [.int .i64 37, .str [42], .int .i64 0, .bool false, .sl [] [.agg [.int .i64 24, .str [], .int .i64 2, .bool false, .nils, .int .i64 41], .agg [.int .i64 24, .str [], .int .i64 3, .bool false, .nils, .int .i64 45]], .int .i64 43]], .int .i64 39]], .int .i64 32]], .int .i64 32]], .int .i64 0], .int .i64 0, .int .i64 0]))]
    ⟨k1051 i s, trivial⟩ (by kernel_rfl) (by kernel_rfl) (by kernel_rfl)
theorem k1053 (i : Nat → Int) (s : Nat → List UInt8) : Ans i s (69, [.str [77, 79, 68, 85, 76, 69, 32, 77, 59, 32, 66, 69, 71, 73, 78, 32, 120, 32, 58, 61, 32, 49, 32, 69, 78, 68, 32, 77, 46], .str [32, 9, 10, 13]], .ret (.str [77, 79, 68, 85, 76, 69, 32, 77, 59, 32, 66, 69, 71, 73, 78, 32, 120, 32, 58, 61, 32, 49, 32, 69, 78, 68, 32, 77, 46])) := by
  exact ans [] trivial
    []
    trivial (by kernel_rfl) (by kernel_rfl) (by kernel_rfl)
theorem k1054 (i : Nat → Int) (s : Nat → List UInt8) : Ans i s (73, [.str [77, 79, 68, 85, 76, 69, 32, 77, 59, 32, 66, 69, 71, 73, 78, 32, 120, 32, 58, 61, 32, 49, 32, 69, 78, 68, 32, 77, 46]], .ret (.tup [.agg [.int .i64 2, .str [77, 79, 68, 85, 76, 69], .int .i64 0, .int .i64 0], .int .i64 6, .int .i64 0])) := by
  exact ans [] trivial
    []
    trivial (by kernel_rfl) (by kernel_rfl) (by kernel_rfl)
theorem k1055 (i : Nat → Int) (s : Nat → List UInt8) : Ans i s (69, [.str [32, 77, 59, 32, 66, 69, 71, 73, 78, 32, 120, 32, 58, 61, 32, 49, 32, 69, 78, 68, 32, 77, 46], .str [32, 9, 10, 13]], .ret (.str [77, 59, 32, 66, 69, 71, 73, 78, 32, 120, 32, 58, 61, 32, 49, 32, 69, 78, 68, 32, 77, 46])) := by
  exact ans [] trivial
    []
    trivial (by kernel_rfl) (by kernel_rfl) (by kernel_rfl)
theorem k1056 (i : Nat → Int) (s : Nat → List UInt8) : Ans i s (73, [.str [77, 59, 32, 66, 69, 71, 73, 78, 32, 120, 32, 58, 61, 32, 49, 32, 69, 78, 68, 32, 77, 46]], .ret (.tup [.agg [.int .i64 1, .str [77], .int .i64 0, .int .i64 0], .int .i64 1, .int .i64 0])) := by
  exact ans [] trivial
    []
    trivial (by kernel_rfl) (by kernel_rfl) (by kernel_rfl)
theorem k1057 (i : Nat → Int) (s : Nat → List UInt8) : Ans i s (69, [.str [59, 32, 66, 69, 71, 73, 78, 32, 120, 32, 58, 61, 32, 49, 32, 69, 78, 68, 32, 77, 46], .str [32, 9, 10, 13]], .ret (.str [59, 32, 66, 69, 71, 73, 78, 32, 120, 32, 58, 61, 32, 49, 32, 69, 78, 68, 32, 77, 46])) := by
  exact ans [] trivial
    []
    trivial (by kernel_rfl) (by kernel_rfl) (by kernel_rfl)
theorem k1058 (i : Nat → Int) (s : Nat → List UInt8) : Ans i s (73, [.str [59, 32, 66, 69, 71, 73, 78, 32, 120, 32, 58, 61, 32, 49, 32, 69, 78, 68, 32, 77, 46]], .ret (.tup [.agg [.int .i64 6, .str [59], .int .i64 0, .int .i64 0], .int .i64 1, .int .i64 0])) := by
  exact ans [] trivial
    [(224, [.str [43, 45, 42, 47, 126, 38, 46, 44, 59, 124, 40, 41, 91, 93, 123, 125, 58, 94, 61, 35, 60, 62], .int .u8 59], .ret (.int .i64 8))]
    ⟨k1005 i s, trivial⟩ (by kernel_rfl) (by kernel_rfl) (by kernel_rfl)
theorem k1059 (i : Nat → Int) (s : Nat → List UInt8) : Ans i s (69, [.str [32, 66, 69, 71, 73, 78, 32, 120, 32, 58, 61, 32, 49, 32, 69, 78, 68, 32, 77, 46], .str [32, 9, 10, 13]], .ret (.str [66, 69, 71, 73, 78, 32, 120, 32, 58, 61, 32, 49, 32, 69, 78, 68, 32, 77, 46])) := by
  exact ans [] trivial
    []
    trivial (by kernel_rfl) (by kernel_rfl) (by kernel_rfl)
theorem k1060 (i : Nat → Int) (s : Nat → List UInt8) : Ans i s (73, [.str [66, 69, 71, 73, 78, 32, 120, 32, 58, 61, 32, 49, 32, 69, 78, 68, 32, 77, 46]], .ret (.tup [.agg [.int .i64 2, .str [66, 69, 71, 73, 78], .int .i64 0, .int .i64 0], .int .i64 5, .int .i64 0])) := by
  exact ans [] trivial
    []
    trivial (by kernel_rfl) (by kernel_rfl) (by kernel_rfl)
theorem k1061 (i : Nat → Int) (s : Nat → List UInt8) : Ans i s (69, [.str [32, 120, 32, 58, 61, 32, 49, 32, 69, 78, 68, 32, 77, 46], .str [32, 9, 10, 13]], .ret (.str [120, 32, 58, 61, 32, 49, 32, 69, 78, 68, 32, 77, 46])) := by
  exact ans [] trivial
    []
    trivial (by kernel_rfl) (by kernel_rfl) (by kernel_rfl)
theorem k1062 (i : Nat → Int) (s : Nat → List UInt8) : Ans i s (73, [.str [120, 32, 58, 61, 32, 49, 32, 69, 78, 68, 32, 77, 46]], .ret (.tup [.agg [.int .i64 1, .str [120], .int .i64 0, .int .i64 0], .int .i64 1, .int .i64 0])) := by
  exact ans [] trivial
    []
    trivial (by kernel_rfl) (by kernel_rfl) (by kernel_rfl)
theorem k1063 (i : Nat → Int) (s : Nat → List UInt8) : Ans i s (69, [.str [32, 58, 61, 32, 49, 32, 69, 78, 68, 32, 77, 46], .str [32, 9, 10, 13]], .ret (.str [58, 61, 32, 49, 32, 69, 78, 68, 32, 77, 46])) := by
  exact ans [] trivial
    []
    trivial (by kernel_rfl) (by kernel_rfl) (by kernel_rfl)
theorem k1064 (i : Nat → Int) (s : Nat → List UInt8) : Ans i s (73, [.str [58, 61, 32, 49, 32, 69, 78, 68, 32, 77, 46]], .ret (.tup [.agg [.int .i64 6, .str [58, 61], .int .i64 0, .int .i64 0], .int .i64 2, .int .i64 0])) := by
  exact ans [] trivial
    []
    trivial (by kernel_rfl) (by kernel_rfl) (by kernel_rfl)
theorem k1065 (i : Nat → Int) (s : Nat → List UInt8) : Ans i s (69, [.str [32, 49, 32, 69, 78, 68, 32, 77, 46], .str [32, 9, 10, 13]], .ret (.str [49, 32, 69, 78, 68, 32, 77, 46])) := by
  exact ans [] trivial
    []
    trivial (by kernel_rfl) (by kernel_rfl) (by kernel_rfl)
theorem k1066 (i : Nat → Int) (s : Nat → List UInt8) : Ans i s (73, [.str [49, 32, 69, 78, 68, 32, 77, 46]], .ret (.tup [.agg [.int .i64 3, .str [], .int .i64 1, .int .i64 0], .int .i64 1, .int .i64 0])) := by
  exact ans [] trivial
    [(133, [.str [49]], .ret (.tup [.agg [.int .i64 3, .str [], .int .i64 1, .int .i64 0], .int .i64 0]))]
    ⟨k1026 i s, trivial⟩ (by kernel_rfl) (by kernel_rfl) (by kernel_rfl)
theorem k1067 (i : Nat → Int) (s : Nat → List UInt8) : Ans i s (22, [.str [77, 79, 68, 85, 76, 69, 32, 77, 59, 32, 66, 69, 71, 73, 78, 32, 120, 32, 58, 61, 32, 49, 32, 69, 78, 68, 32, 77, 46]], .ret (.tup [.sl [] [.agg [.int .i64 2, .str [77, 79, 68, 85, 76, 69], .int .i64 0, .int .i64 0], .agg [.int .i64 1, .str [77], .int .i64 0, .int .i64 7], .agg [.int .i64 6, .str [59], .int .i64 0, .int .i64 8], .agg [.int .i64 2, .str [66, 69, 71, 73, 78], .int .i64 0, .int .i64 10], .agg [.int .i64 1, .str [120], .int .i64 0, .int .i64 16], .agg [.int .i64 6, .str [58, 61], .int .i64 0, .int .i64 18], .agg [.int .i64 3, .str [], .int .i64 1, .int .i64 21], .agg [.int .i64 2, .str [69, 78, 68], .int .i64 0, .int .i64 23], .agg [.int .i64 1, .str [77], .int .i64 0, .int .i64 27], .agg [.int .i64 6, .str [46], .int .i64 0, .int .i64 28], .agg [.int .i64 0, .str [], .int .i64 0, .int .i64 29]], .int .i64 0, .int .i64 0])) := by
  exact ans [] trivial
    [(69, [.str [77, 79, 68, 85, 76, 69, 32, 77, 59, 32, 66, 69, 71, 73, 78, 32, 120, 32, 58, 61, 32, 49, 32, 69, 78, 68, 32, 77, 46], .str [32, 9, 10, 13]], .ret (.str [77, 79, 68, 85, 76, 69, 32, 77, 59, 32, 66, 69, 71, 73, 78, 32, 120, 32, 58, 61, 32, 49, 32, 69, 78, 68, 32, 77, 46])),
    (73, [.str [77, 79, 68, 85, 76, 69, 32, 77, 59, 32, 66, 69, 71, 73, 78, 32, 120, 32, 58, 61, 32, 49, 32, 69, 78, 68, 32, 77, 46]], .ret (.tup [.agg [.int .i64 2, .str [77, 79, 68, 85, 76, 69], .int .i64 0, .int .i64 0], .int .i64 6, .int .i64 0])),
    (69, [.str [32, 77, 59, 32, 66, 69, 71, 73, 78, 32, 120, 32, 58, 61, 32, 49, 32, 69, 78, 68, 32, 77, 46], .str [32, 9, 10, 13]], .ret (.str [77, 59, 32, 66, 69, 71, 73, 78, 32, 120, 32, 58, 61, 32, 49, 32, 69, 78, 68, 32, 77, 46])),
    (73, [.str [77, 59, 32, 66, 69, 71, 73, 78, 32, 120, 32, 58, 61, 32, 49, 32, 69, 78, 68, 32, 77, 46]], .ret (.tup [.agg [.int .i64 1, .str [77], .int .i64 0, .int .i64 0], .int .i64 1, .int .i64 0])),
    (69, [.str [59, 32, 66, 69, 71, 73, 78, 32, 120, 32, 58, 61, 32, 49, 32, 69, 78, 68, 32, 77, 46], .str [32, 9, 10, 13]], .ret (.str [59, 32, 66, 69, 71, 73, 78, 32, 120, 32, 58, 61, 32, 49, 32, 69, 78, 68, 32, 77, 46])),
    (73, [.str [59, 32, 66, 69, 71, 73, 78, 32, 120, 32, 58, 61, 32, 49, 32, 69, 78, 68, 32, 77, 46]], .ret (.tup [.agg [.int .i64 6, .str [59], .int .i64 0, .int .i64 0], .int .i64 1, .int .i64 0])),
    (69, [.str [32, 66, 69, 71, 73, 78, 32, 120, 32, 58, 61, 32, 49, 32, 69, 78, 68, 32, 77, 46], .str [32, 9, 10, 13]], .ret (.str [66, 69, 71, 73, 78, 32, 120, 32, 58, 61, 32, 49, 32, 69, 78, 68, 32, 77, 46])),
    (73, [.str [66, 69, 71, 73, 78, 32, 120, 32, 58, 61, 32, 49, 32, 69, 78, 68, 32, 77, 46]], .ret (.tup [.agg [.int .i64 2, .str [66, 69, 71, 73, 78], .int .i64 0, .int .i64 0], .int .i64 5, .int .i64 0])),
    (69, [.str [32, 120, 32, 58, 61, 32, 49, 32, 69, 78, 68, 32, 77, 46], .str [32, 9, 10, 13]], .ret (.str [120, 32, 58, 61, 32, 49, 32, 69, 78, 68, 32, 77, 46])),
    (73, [.str [120, 32, 58, 61, 32, 49, 32, 69, 78, 68, 32, 77, 46]], .ret (.tup [.agg [.int .i64 1, .str [120], .int .i64 0, .int .i64 0], .int .i64 1, .int .i64 0])),
    (69, [.str [32, 58, 61, 32, 49, 32, 69, 78, 68, 32, 77, 46], .str [32, 9, 10, 13]], .ret (.str [58, 61, 32, 49, 32, 69, 78, 68, 32, 77, 46])),
    (73, [.str [58, 61, 32, 49, 32, 69, 78, 68, 32, 77, 46]], .ret (.tup [.agg [.int .i64 6, .str [58, 61], .int .i64 0, .int .i64 0], .int .i64 2, .int .i64 0])),
    (69, [.str [32, 49, 32, 69, 78, 68, 32, 77, 46], .str [32, 9, 10, 13]], .ret (.str [49, 32, 69, 78, 68, 32, 77, 46])),
    (73, [.str [49, 32, 69, 78, 68, 32, 77, 46]], .ret (.tup [.agg [.int .i64 3, .str [], .int .i64 1, .int .i64 0], .int .i64 1, .int .i64 0])),
    (69, [.str [32, 69, 78, 68, 32, 77, 46], .str [32, 9, 10, 13]], .ret (.str [69, 78, 68, 32, 77, 46])),
    (73, [.str [69, 78, 68, 32, 77, 46]], .ret (.tup [.agg [.int .i64 2, .str [69, 78, 68], .int .i64 0, .int .i64 0], .int .i64 3, .int .i64 0])),
    (69, [.str [32, 77, 46], .str [32, 9, 10, 13]], .ret (.str [77, 46])),
    (73, [.str [77, 46]], .ret (.tup [.agg [.int .i64 1, .str [77], .int .i64 0, .int .i64 0], .int .i64 1, .int .i64 0])),
    (69, [.str [46], .str [32, 9, 10, 13]], .ret (.str [46])),
    (73, [.str [46]], .ret (.tup [.agg [.int .i64 6, .str [46], .int .i64 0, .int .i64 0], .int .i64 1, .int .i64 0])),
    (69, [.str [], .str [32, 9, 10, 13]], .ret (.str []))]
    ⟨k1053 i s, ⟨k1054 i s, ⟨k1055 i s, ⟨k1056 i s, ⟨k1057 i s, ⟨k1058 i s, ⟨k1059 i s, ⟨k1060 i s, ⟨k1061 i s, ⟨k1062 i s, ⟨k1063 i s, ⟨k1064 i s, ⟨k1065 i s, ⟨k1066 i s, ⟨k1042 i s, ⟨k1043 i s, ⟨k1044 i s, ⟨k1045 i s, ⟨k1046 i s, ⟨k1048 i s, ⟨k1049 i s, trivial⟩⟩⟩⟩⟩⟩⟩⟩⟩⟩⟩⟩⟩⟩⟩⟩⟩⟩⟩⟩⟩ (by kernel_rfl) (by kernel_rfl) (by kernel_rfl)
theorem k1068 (i : Nat → Int) (s : Nat → List UInt8) : Ans i s (7, [.str [77, 79, 68, 85, 76, 69, 32, 77, 59, 32, 66, 69, 71, 73, 78, 32, 120, 32, 58, 61, 32, 49, 32, 69, 78, 68, 32, 77, 46]], .ret (.tup [.agg [.int .i64 1, .str [77], .int .i64 0, .bool false, .sl [] [.agg [.int .i64 16, .str [], .int .i64 0, .bool false, .sl [] [.agg [.int .i64 17, .str [], .int .i64 0, .bool false, .sl [] [.agg [.int .i64 31, .str [120], .int .i64 0, .bool false, .nils, .int .i64 16], .agg [.int .i64 24, .str [], .int .i64 1, .bool false, .nils, .int .i64 21]], .int .i64 16]], .int .i64 16]], .int .i64 0], .int .i64 0, .int .i64 0])) := by
  exact ans [] trivial
    [(22, [.str [77, 79, 68, 85, 76, 69, 32, 77, 59, 32, 66, 69, 71, 73, 78, 32, 120, 32, 58, 61, 32, 49, 32, 69, 78, 68, 32, 77, 46]], .ret (.tup [.sl [] [.agg [.int .i64 2, .str [77, 79, 68, 85, 76, 69], .int .i64 0, .int .i64 0], .agg [.int .i64 1, .str [77], .int .i64 0, .int .i64 7], .agg [.int .i64 6, .str [59], .int .i64 0, .int .i64 8], .agg [.int .i64 2, .str [66, 69, 71, 73, 78], .int .i64 0, .int .i64 10], .agg [.int .i64 1, .str [120], .int .i64 0, .int .i64 16], .agg [.int .i64 6, .str [58, 61], .int .i64 0, .int .i64 18], .agg [.int .i64 3, .str [], .int .i64 1, .int .i64 21], .agg [.int .i64 2, .str [69, 78, 68], .int .i64 0, .int .i64 23], .agg [.int .i64 1, .str [77], .int .i64 0, .int .i64 27], .agg [.int .i64 6, .str [46], .int .i64 0, .int .i64 28], .agg [.int .i64 0, .str [], .int .i64 0, .int .i64 29]], .int .i64 0, .int .i64 0]))]
    ⟨k1067 i s, trivial⟩ (by kernel_rfl) (by kernel_rfl) (by kernel_rfl)
theorem k1069 (i : Nat → Int) (s : Nat → List UInt8) : Ans i s (5, [.str [77, 79, 68, 85, 76, 69, 32, 77, 59, 32, 66, 69, 71, 73, 78, 32, 120, 32, 58, 61, 32, 49, 32, 69, 78, 68, 32, 77, 46], .nils], .ret (.tup [.agg [.str [], .bool false, .nils, .nils, .nils, .nils, .nils, .nils, .nils, .nils], .int .i64 16, .int .i64 122])) := by
  exact ans [] trivial
    [(7, [.str [77, 79, 68, 85, 76, 69, 32, 77, 59, 32, 66, 69, 71, 73, 78, 32, 120, 32, 58, 61, 32, 49, 32, 69, 78, 68, 32, 77, 46]], .ret (.tup [.agg [.int .i64 1, .str [77], .int .i64 0, .bool false, .sl [] [.agg [.int .i64 16, .str [], .int .i64 0, .bool false, .sl [] [.agg [.int .i64 17, .str [], .int .i64 0, .bool false, .sl [] [.agg [.int .i64 31, .str [120], .int .i64 0, .bool false, .nils, .int .i64 16], .agg [.int .i64 24, .str [], .int .i64 1, .bool false, .nils, .int .i64 21]], .int .i64 16]], .int .i64 16]], .int .i64 0], .int .i64 0, .int .i64 0]))]
    ⟨k1068 i s, trivial⟩ (by kernel_rfl) (by kernel_rfl) (by kernel_rfl)
theorem shown_k (i : Nat → Int) (s : Nat → List UInt8) : Ans i s (4, [], .ret (.bool true)) := by
  exact ans [] trivial
    [(5, [.str [77, 79, 68, 85, 76, 69, 32, 77, 59, 32, 86, 65, 82, 32, 97, 58, 32, 73, 78, 84, 69, 71, 69, 82, 59, 32, 66, 69, 71, 73, 78, 32, 97, 32, 58, 61, 32, 49, 32, 43, 32, 50, 32, 42, 32, 51, 32, 69, 78, 68, 32, 77, 46], .nils], .ret (.tup [.agg [.str [77], .bool false, .nils, .nils, .sl [] [.agg [.int .i64 0, .int .i64 0, .int .i64 0, .int .i64 0, .nils, .int .i64 0, .int .i64 0], .agg [.int .i64 1, .int .i64 0, .int .i64 0, .int .i64 0, .nils, .int .i64 4, .int .i64 0], .agg [.int .i64 2, .int .i64 0, .int .i64 0, .int .i64 0, .nils, .int .i64 1, .int .i64 0], .agg [.int .i64 3, .int .i64 0, .int .i64 0, .int .i64 0, .nils, .int .i64 1, .int .i64 0], .agg [.int .i64 4, .int .i64 0, .int .i64 0, .int .i64 0, .nils, .int .i64 1, .int .i64 0], .agg [.int .i64 5, .int .i64 0, .int .i64 0, .int .i64 0, .nils, .int .i64 4, .int .i64 0], .agg [.int .i64 6, .int .i64 0, .int .i64 0, .int .i64 0, .nils, .int .i64 4, .int .i64 0], .agg [.int .i64 7, .int .i64 0, .int .i64 0, .int .i64 0, .nils, .int .i64 0, .int .i64 0]], .nils, .nils, .sl [] [.agg [.str [97], .int .i64 1, .bool false, .bool false]], .nils, .sl [] [.agg [.int .i64 1, .int .i64 0, .sl [] [.agg [.int .i64 3, .int .i64 1, .int .i64 (-1), .int .i64 0, .nils], .agg [.int .i64 1, .int .i64 1, .int .i64 0, .int .i64 7, .nils]], .nils]]], .int .i64 0, .int .i64 0])),
    (5, [.str [77, 79, 68, 85, 76, 69, 32, 77, 59, 32, 66, 69, 71, 73, 78, 32, 120, 32, 58, 61, 32, 49, 32, 69, 78, 68, 32, 77, 46], .nils], .ret (.tup [.agg [.str [], .bool false, .nils, .nils, .nils, .nils, .nils, .nils, .nils, .nils], .int .i64 16, .int .i64 122]))]
    ⟨k1052 i s, ⟨k1069 i s, trivial⟩⟩ (by kernel_rfl) (by kernel_rfl) (by kernel_rfl)
end Go.Proofs.Tryz.Vc
