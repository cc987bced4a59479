/- Answers of calls. -/
import Derived.Test.YtokbomdlodainaaGreatDoorVcQ2
set_option linter.all false
namespace Go.Proofs.Tryz.Vc
open Go Go.Proofs Go.Ve
set_option maxRecDepth 100000
set_option maxHeartbeats 4000000
def o257 : Ob := (70, [.symS 105, .str [40, 42]], .ret (.bool false))
theorem q257 (a b : Int) (H : Hy a b) : Ans (i0 a b) (s0 a b) o257 := by
  have H0 := H
  exact ans [⟨.len true (.c (.symS 105)), .int .i64 41⟩,
    ⟨.slcStr (.c (.symS 105)) none (some (.c (.int .i64 2))), .str [67, 79]⟩]
    (⟨by kernel_rfl, ⟨by kernel_rfl, trivial⟩⟩)
    []
    trivial (by kernel_rfl) (by kernel_rfl) (by kernel_rfl)
def o258 : Ob := (129, [.symS 105], .ret (.str [67, 79, 78, 83, 84]))
theorem q258 (a b : Int) (H : Hy a b) : Ans (i0 a b) (s0 a b) o258 := by
  show Ans (i0 a b) (s0 a b) (129, [.symS 105], .ret (.str [67, 79, 78, 83, 84]))
  letI := bare (i0 a b) (s0 a b)
  exact word_ob [67, 79, 78, 83, 84] [32, 99, 32, 61, 32, 48, (dg a 7), (dg a 6), (dg a 5), (dg a 4), (dg a 3), (dg a 2), (dg a 1), (dg a 0), 72, 32, 35, 32, 48, (dg b 7), (dg b 6), (dg b 5), (dg b 4), (dg b 3), (dg b 2), (dg b 1), (dg b 0), 72, 59, 32, 69, 78, 68, 32, 77, 46] (by kernel_rfl) (by kernel_rfl) rfl (al_all (by kernel_rfl)) (nal_ok (by kernel_rfl))
def o259 : Ob := (73, [.symS 105], .ret (.tup [.agg [.int .i64 2, .str [67, 79, 78, 83, 84], .int .i64 0, .int .i64 0], .int .i64 5, .int .i64 0]))
theorem q259 (a b : Int) (H : Hy a b) : Ans (i0 a b) (s0 a b) o259 := by
  have H0 := H
  exact ans [⟨.idxStr (.c (.symS 105)) (.c (.int .i64 0)), .int .u8 67⟩]
    (⟨by kernel_rfl, trivial⟩)
    [o258]
    ⟨q258 a b H0, trivial⟩ (by kernel_rfl) (by kernel_rfl) (by kernel_rfl)
def o260 : Ob := (69, [.symS 106, .str [32, 9, 10, 13]], .ret (.symS 107))
theorem q260 (a b : Int) (H : Hy a b) : Ans (i0 a b) (s0 a b) o260 := by
  have H0 := H
  exact ans [⟨.bin .eql (.c (.symS 106)) (.c (.str [])), .bool false⟩,
    ⟨.len true (.c (.symS 106)), .int .i64 36⟩,
    ⟨.idxStr (.c (.symS 106)) (.c (.int .i64 0)), .int .u8 32⟩,
    ⟨.slcStr (.c (.symS 106)) (some (.c (.int .i64 1))) none, .symS 107⟩,
    ⟨.len true (.c (.symS 107)), .int .i64 35⟩,
    ⟨.idxStr (.c (.symS 107)) (.c (.int .i64 0)), .int .u8 99⟩]
    (⟨by kernel_rfl, ⟨by kernel_rfl, ⟨by kernel_rfl, ⟨by kernel_rfl, ⟨by kernel_rfl, ⟨by kernel_rfl, trivial⟩⟩⟩⟩⟩⟩)
    []
    trivial (by kernel_rfl) (by kernel_rfl) (by kernel_rfl)
def o261 : Ob := (70, [.symS 107, .str [40, 42]], .ret (.bool false))
theorem q261 (a b : Int) (H : Hy a b) : Ans (i0 a b) (s0 a b) o261 := by
  have H0 := H
  exact ans [⟨.len true (.c (.symS 107)), .int .i64 35⟩,
    ⟨.slcStr (.c (.symS 107)) none (some (.c (.int .i64 2))), .str [99, 32]⟩]
    (⟨by kernel_rfl, ⟨by kernel_rfl, trivial⟩⟩)
    []
    trivial (by kernel_rfl) (by kernel_rfl) (by kernel_rfl)
def o262 : Ob := (129, [.symS 107], .ret (.str [99]))
theorem q262 (a b : Int) (H : Hy a b) : Ans (i0 a b) (s0 a b) o262 := by
  show Ans (i0 a b) (s0 a b) (129, [.symS 107], .ret (.str [99]))
  letI := bare (i0 a b) (s0 a b)
  exact word_ob [99] [32, 61, 32, 48, (dg a 7), (dg a 6), (dg a 5), (dg a 4), (dg a 3), (dg a 2), (dg a 1), (dg a 0), 72, 32, 35, 32, 48, (dg b 7), (dg b 6), (dg b 5), (dg b 4), (dg b 3), (dg b 2), (dg b 1), (dg b 0), 72, 59, 32, 69, 78, 68, 32, 77, 46] (by kernel_rfl) (by kernel_rfl) rfl (al_all (by kernel_rfl)) (nal_ok (by kernel_rfl))
def o263 : Ob := (73, [.symS 107], .ret (.tup [.agg [.int .i64 1, .str [99], .int .i64 0, .int .i64 0], .int .i64 1, .int .i64 0]))
theorem q263 (a b : Int) (H : Hy a b) : Ans (i0 a b) (s0 a b) o263 := by
  have H0 := H
  exact ans [⟨.idxStr (.c (.symS 107)) (.c (.int .i64 0)), .int .u8 99⟩]
    (⟨by kernel_rfl, trivial⟩)
    [o262]
    ⟨q262 a b H0, trivial⟩ (by kernel_rfl) (by kernel_rfl) (by kernel_rfl)
def o264 : Ob := (69, [.symS 108, .str [32, 9, 10, 13]], .ret (.symS 109))
theorem q264 (a b : Int) (H : Hy a b) : Ans (i0 a b) (s0 a b) o264 := by
  have H0 := H
  exact ans [⟨.bin .eql (.c (.symS 108)) (.c (.str [])), .bool false⟩,
    ⟨.len true (.c (.symS 108)), .int .i64 34⟩,
    ⟨.idxStr (.c (.symS 108)) (.c (.int .i64 0)), .int .u8 32⟩,
    ⟨.slcStr (.c (.symS 108)) (some (.c (.int .i64 1))) none, .symS 109⟩,
    ⟨.len true (.c (.symS 109)), .int .i64 33⟩,
    ⟨.idxStr (.c (.symS 109)) (.c (.int .i64 0)), .int .u8 61⟩]
    (⟨by kernel_rfl, ⟨by kernel_rfl, ⟨by kernel_rfl, ⟨by kernel_rfl, ⟨by kernel_rfl, ⟨by kernel_rfl, trivial⟩⟩⟩⟩⟩⟩)
    []
    trivial (by kernel_rfl) (by kernel_rfl) (by kernel_rfl)
def o265 : Ob := (70, [.symS 109, .str [40, 42]], .ret (.bool false))
theorem q265 (a b : Int) (H : Hy a b) : Ans (i0 a b) (s0 a b) o265 := by
  have H0 := H
  exact ans [⟨.len true (.c (.symS 109)), .int .i64 33⟩,
    ⟨.slcStr (.c (.symS 109)) none (some (.c (.int .i64 2))), .str [61, 32]⟩]
    (⟨by kernel_rfl, ⟨by kernel_rfl, trivial⟩⟩)
    []
    trivial (by kernel_rfl) (by kernel_rfl) (by kernel_rfl)
def o266 : Ob := (129, [.symS 109], .ret (.str []))
theorem q266 (a b : Int) (H : Hy a b) : Ans (i0 a b) (s0 a b) o266 := by
  show Ans (i0 a b) (s0 a b) (129, [.symS 109], .ret (.str []))
  letI := bare (i0 a b) (s0 a b)
  exact word_ob [] [61, 32, 48, (dg a 7), (dg a 6), (dg a 5), (dg a 4), (dg a 3), (dg a 2), (dg a 1), (dg a 0), 72, 32, 35, 32, 48, (dg b 7), (dg b 6), (dg b 5), (dg b 4), (dg b 3), (dg b 2), (dg b 1), (dg b 0), 72, 59, 32, 69, 78, 68, 32, 77, 46] (by kernel_rfl) (by kernel_rfl) rfl (al_all (by kernel_rfl)) (nal_ok (by kernel_rfl))
def o267 : Ob := (73, [.symS 109], .ret (.tup [.agg [.int .i64 6, .str [61], .int .i64 0, .int .i64 0], .int .i64 1, .int .i64 0]))
theorem q267 (a b : Int) (H : Hy a b) : Ans (i0 a b) (s0 a b) o267 := by
  have H0 := H
  exact ans [⟨.idxStr (.c (.symS 109)) (.c (.int .i64 0)), .int .u8 61⟩,
    ⟨.len true (.c (.symS 109)), .int .i64 33⟩,
    ⟨.slcStr (.c (.symS 109)) none (some (.c (.int .i64 2))), .str [61, 32]⟩,
    ⟨.slcStr (.c (.symS 109)) none (some (.c (.int .i64 1))), .str [61]⟩]
    (⟨by kernel_rfl, ⟨by kernel_rfl, ⟨by kernel_rfl, ⟨by kernel_rfl, trivial⟩⟩⟩⟩)
    [o266,
    o27]
    ⟨q266 a b H0, ⟨q27 a b H0, trivial⟩⟩ (by kernel_rfl) (by kernel_rfl) (by kernel_rfl)
def o268 : Ob := (69, [.symS 110, .str [32, 9, 10, 13]], .ret (.symS 111))
theorem q268 (a b : Int) (H : Hy a b) : Ans (i0 a b) (s0 a b) o268 := by
  have H0 := H
  exact ans [⟨.bin .eql (.c (.symS 110)) (.c (.str [])), .bool false⟩,
    ⟨.len true (.c (.symS 110)), .int .i64 32⟩,
    ⟨.idxStr (.c (.symS 110)) (.c (.int .i64 0)), .int .u8 32⟩,
    ⟨.slcStr (.c (.symS 110)) (some (.c (.int .i64 1))) none, .symS 111⟩,
    ⟨.len true (.c (.symS 111)), .int .i64 31⟩,
    ⟨.idxStr (.c (.symS 111)) (.c (.int .i64 0)), .int .u8 48⟩]
    (⟨by kernel_rfl, ⟨by kernel_rfl, ⟨by kernel_rfl, ⟨by kernel_rfl, ⟨by kernel_rfl, ⟨by kernel_rfl, trivial⟩⟩⟩⟩⟩⟩)
    []
    trivial (by kernel_rfl) (by kernel_rfl) (by kernel_rfl)
def o269 : Ob := (70, [.symS 111, .str [40, 42]], .ret (.bool false))
theorem q269 (a b : Int) (H : Hy a b) : Ans (i0 a b) (s0 a b) o269 := by
  have H0 := H
  exact ans [⟨.len true (.c (.symS 111)), .int .i64 31⟩,
    ⟨.slcStr (.c (.symS 111)) none (some (.c (.int .i64 2))), .symS 56⟩,
    ⟨.bin .eql (.c (.symS 56)) (.c (.str [40, 42])), .bool false⟩]
    (⟨by kernel_rfl, ⟨by kernel_rfl, ⟨by kernel_rfl, trivial⟩⟩⟩)
    []
    trivial (by kernel_rfl) (by kernel_rfl) (by kernel_rfl)
def o270 : Ob := (129, [.symS 111], .ret (.symS 0))
theorem q270 (a b : Int) (H : Hy a b) : Ans (i0 a b) (s0 a b) o270 := by
  show Ans (i0 a b) (s0 a b) (129, [.symS 111], .ret (.symS 0))
  letI := bare (i0 a b) (s0 a b)
  exact word_ob (dgs a ++ [72]) [32, 35, 32, 48, (dg b 7), (dg b 6), (dg b 5), (dg b 4), (dg b 3), (dg b 2), (dg b 1), (dg b 0), 72, 59, 32, 69, 78, 68, 32, 77, 46] (by kernel_rfl) (by kernel_rfl) rfl (dgs_alnum a) (nal_ok (by kernel_rfl))
def o271 : Ob := (73, [.symS 111], .ret (.tup [.agg [.int .i64 3, .str [], .sym .i64 50, .int .i64 0], .int .i64 10, .int .i64 0]))
theorem q271 (a b : Int) (H : Hy a b) : Ans (i0 a b) (s0 a b) o271 := by
  have H0 := H
  exact ans [⟨.idxStr (.c (.symS 111)) (.c (.int .i64 0)), .int .u8 48⟩,
    ⟨.len true (.c (.symS 0)), .int .i64 10⟩]
    (⟨by kernel_rfl, ⟨by kernel_rfl, trivial⟩⟩)
    [o270,
    o35]
    ⟨q270 a b H0, ⟨q35 a b H0, trivial⟩⟩ (by kernel_rfl) (by kernel_rfl) (by kernel_rfl)
def o272 : Ob := (69, [.symS 112, .str [32, 9, 10, 13]], .ret (.symS 113))
theorem q272 (a b : Int) (H : Hy a b) : Ans (i0 a b) (s0 a b) o272 := by
  have H0 := H
  exact ans [⟨.bin .eql (.c (.symS 112)) (.c (.str [])), .bool false⟩,
    ⟨.len true (.c (.symS 112)), .int .i64 21⟩,
    ⟨.idxStr (.c (.symS 112)) (.c (.int .i64 0)), .int .u8 32⟩,
    ⟨.slcStr (.c (.symS 112)) (some (.c (.int .i64 1))) none, .symS 113⟩,
    ⟨.len true (.c (.symS 113)), .int .i64 20⟩,
    ⟨.idxStr (.c (.symS 113)) (.c (.int .i64 0)), .int .u8 35⟩]
    (⟨by kernel_rfl, ⟨by kernel_rfl, ⟨by kernel_rfl, ⟨by kernel_rfl, ⟨by kernel_rfl, ⟨by kernel_rfl, trivial⟩⟩⟩⟩⟩⟩)
    []
    trivial (by kernel_rfl) (by kernel_rfl) (by kernel_rfl)
def o273 : Ob := (70, [.symS 113, .str [40, 42]], .ret (.bool false))
theorem q273 (a b : Int) (H : Hy a b) : Ans (i0 a b) (s0 a b) o273 := by
  have H0 := H
  exact ans [⟨.len true (.c (.symS 113)), .int .i64 20⟩,
    ⟨.slcStr (.c (.symS 113)) none (some (.c (.int .i64 2))), .str [35, 32]⟩]
    (⟨by kernel_rfl, ⟨by kernel_rfl, trivial⟩⟩)
    []
    trivial (by kernel_rfl) (by kernel_rfl) (by kernel_rfl)
def o274 : Ob := (129, [.symS 113], .ret (.str []))
theorem q274 (a b : Int) (H : Hy a b) : Ans (i0 a b) (s0 a b) o274 := by
  show Ans (i0 a b) (s0 a b) (129, [.symS 113], .ret (.str []))
  letI := bare (i0 a b) (s0 a b)
  exact word_ob [] [35, 32, 48, (dg b 7), (dg b 6), (dg b 5), (dg b 4), (dg b 3), (dg b 2), (dg b 1), (dg b 0), 72, 59, 32, 69, 78, 68, 32, 77, 46] (by kernel_rfl) (by kernel_rfl) rfl (al_all (by kernel_rfl)) (nal_ok (by kernel_rfl))
def o275 : Ob := (224, [.str [43, 45, 42, 47, 126, 38, 46, 44, 59, 124, 40, 41, 91, 93, 123, 125, 58, 94, 61, 35, 60, 62], .int .u8 35], .ret (.int .i64 19))
theorem q275 (a b : Int) (H : Hy a b) : Ans (i0 a b) (s0 a b) o275 := by
  show Ans (i0 a b) (s0 a b) (224, [.str [43, 45, 42, 47, 126, 38, 46, 44, 59, 124, 40, 41, 91, 93, 123, 125, 58, 94, 61, 35, 60, 62], .int .u8 35], .ret (.int .i64 19))
  letI := bare (i0 a b) (s0 a b)
  exact index_ob _ _ _ (by kernel_rfl)
def o276 : Ob := (73, [.symS 113], .ret (.tup [.agg [.int .i64 6, .str [35], .int .i64 0, .int .i64 0], .int .i64 1, .int .i64 0]))
theorem q276 (a b : Int) (H : Hy a b) : Ans (i0 a b) (s0 a b) o276 := by
  have H0 := H
  exact ans [⟨.idxStr (.c (.symS 113)) (.c (.int .i64 0)), .int .u8 35⟩,
    ⟨.len true (.c (.symS 113)), .int .i64 20⟩,
    ⟨.slcStr (.c (.symS 113)) none (some (.c (.int .i64 2))), .str [35, 32]⟩,
    ⟨.slcStr (.c (.symS 113)) none (some (.c (.int .i64 1))), .str [35]⟩]
    (⟨by kernel_rfl, ⟨by kernel_rfl, ⟨by kernel_rfl, ⟨by kernel_rfl, trivial⟩⟩⟩⟩)
    [o274,
    o275]
    ⟨q274 a b H0, ⟨q275 a b H0, trivial⟩⟩ (by kernel_rfl) (by kernel_rfl) (by kernel_rfl)
def o277 : Ob := (22, [.symS 40], .ret (.tup [.sl [] [.agg [.int .i64 2, .str [77, 79, 68, 85, 76, 69], .int .i64 0, .int .i64 0], .agg [.int .i64 1, .str [77], .int .i64 0, .int .i64 7], .agg [.int .i64 6, .str [59], .int .i64 0, .int .i64 8], .agg [.int .i64 2, .str [67, 79, 78, 83, 84], .int .i64 0, .int .i64 10], .agg [.int .i64 1, .str [99], .int .i64 0, .int .i64 16], .agg [.int .i64 6, .str [61], .int .i64 0, .int .i64 18], .agg [.int .i64 3, .str [], .sym .i64 50, .int .i64 20], .agg [.int .i64 6, .str [35], .int .i64 0, .int .i64 31], .agg [.int .i64 3, .str [], .sym .i64 53, .int .i64 33], .agg [.int .i64 6, .str [59], .int .i64 0, .int .i64 43], .agg [.int .i64 2, .str [69, 78, 68], .int .i64 0, .int .i64 45], .agg [.int .i64 1, .str [77], .int .i64 0, .int .i64 49], .agg [.int .i64 6, .str [46], .int .i64 0, .int .i64 50], .agg [.int .i64 0, .str [], .int .i64 0, .int .i64 51]], .int .i64 0, .int .i64 0]))
theorem q277 (a b : Int) (H : Hy a b) : Ans (i0 a b) (s0 a b) o277 := by
  have H0 := H
  exact ans [⟨.len true (.c (.symS 40)), .int .i64 51⟩,
    ⟨.slcStr (.c (.symS 40)) (some (.c (.int .i64 0))) none, .symS 40⟩,
    ⟨.bin .eql (.c (.symS 40)) (.c (.str [])), .bool false⟩,
    ⟨.slcStr (.c (.symS 40)) (some (.c (.int .i64 6))) none, .symS 101⟩,
    ⟨.len true (.c (.symS 102)), .int .i64 44⟩,
    ⟨.bin .eql (.c (.symS 102)) (.c (.str [])), .bool false⟩,
    ⟨.slcStr (.c (.symS 40)) (some (.c (.int .i64 8))) none, .symS 103⟩,
    ⟨.len true (.c (.symS 103)), .int .i64 43⟩,
    ⟨.bin .eql (.c (.symS 103)) (.c (.str [])), .bool false⟩,
    ⟨.slcStr (.c (.symS 40)) (some (.c (.int .i64 9))) none, .symS 104⟩,
    ⟨.len true (.c (.symS 105)), .int .i64 41⟩,
    ⟨.bin .eql (.c (.symS 105)) (.c (.str [])), .bool false⟩,
    ⟨.slcStr (.c (.symS 40)) (some (.c (.int .i64 15))) none, .symS 106⟩,
    ⟨.len true (.c (.symS 107)), .int .i64 35⟩,
    ⟨.bin .eql (.c (.symS 107)) (.c (.str [])), .bool false⟩,
    ⟨.slcStr (.c (.symS 40)) (some (.c (.int .i64 17))) none, .symS 108⟩,
    ⟨.len true (.c (.symS 109)), .int .i64 33⟩,
    ⟨.bin .eql (.c (.symS 109)) (.c (.str [])), .bool false⟩,
    ⟨.slcStr (.c (.symS 40)) (some (.c (.int .i64 19))) none, .symS 110⟩,
    ⟨.len true (.c (.symS 111)), .int .i64 31⟩,
    ⟨.bin .eql (.c (.symS 111)) (.c (.str [])), .bool false⟩,
    ⟨.slcStr (.c (.symS 40)) (some (.c (.int .i64 30))) none, .symS 112⟩,
    ⟨.len true (.c (.symS 113)), .int .i64 20⟩,
    ⟨.bin .eql (.c (.symS 113)) (.c (.str [])), .bool false⟩,
    ⟨.slcStr (.c (.symS 40)) (some (.c (.int .i64 32))) none, .symS 59⟩,
    ⟨.len true (.c (.symS 60)), .int .i64 18⟩,
    ⟨.bin .eql (.c (.symS 60)) (.c (.str [])), .bool false⟩,
    ⟨.slcStr (.c (.symS 40)) (some (.c (.int .i64 43))) none, .str [59, 32, 69, 78, 68, 32, 77, 46]⟩,
    ⟨.slcStr (.c (.symS 40)) (some (.c (.int .i64 44))) none, .str [32, 69, 78, 68, 32, 77, 46]⟩,
    ⟨.slcStr (.c (.symS 40)) (some (.c (.int .i64 48))) none, .str [32, 77, 46]⟩,
    ⟨.slcStr (.c (.symS 40)) (some (.c (.int .i64 50))) none, .str [46]⟩,
    ⟨.slcStr (.c (.symS 40)) (some (.c (.int .i64 51))) none, .str []⟩]
    (⟨by kernel_rfl, ⟨by kernel_rfl, ⟨by kernel_rfl, ⟨by kernel_rfl, ⟨by kernel_rfl, ⟨by kernel_rfl, ⟨by kernel_rfl, ⟨by kernel_rfl, ⟨by kernel_rfl, ⟨by kernel_rfl, ⟨by kernel_rfl, ⟨by kernel_rfl, ⟨by kernel_rfl, ⟨by kernel_rfl, ⟨by kernel_rfl, ⟨by kernel_rfl, ⟨by kernel_rfl, ⟨by kernel_rfl, ⟨by kernel_rfl, ⟨by kernel_rfl, ⟨by kernel_rfl, ⟨by kernel_rfl, ⟨by kernel_rfl, ⟨by kernel_rfl, ⟨by kernel_rfl, ⟨by kernel_rfl, ⟨by kernel_rfl, ⟨by kernel_rfl, ⟨by kernel_rfl, ⟨by kernel_rfl, ⟨by kernel_rfl, ⟨by kernel_rfl, trivial⟩⟩⟩⟩⟩⟩⟩⟩⟩⟩⟩⟩⟩⟩⟩⟩⟩⟩⟩⟩⟩⟩⟩⟩⟩⟩⟩⟩⟩⟩⟩⟩)
    [o244,
    o245,
    o247,
    o248,
    o249,
    o251,
    o252,
    o253,
    o255,
    o256,
    o257,
    o259,
    o260,
    o261,
    o263,
    o264,
    o265,
    o267,
    o268,
    o269,
    o271,
    o272,
    o273,
    o276,
    o42,
    o43,
    o49,
    o14,
    o50]
    ⟨q244 a b H0, ⟨q245 a b H0, ⟨q247 a b H0, ⟨q248 a b H0, ⟨q249 a b H0, ⟨q251 a b H0, ⟨q252 a b H0, ⟨q253 a b H0, ⟨q255 a b H0, ⟨q256 a b H0, ⟨q257 a b H0, ⟨q259 a b H0, ⟨q260 a b H0, ⟨q261 a b H0, ⟨q263 a b H0, ⟨q264 a b H0, ⟨q265 a b H0, ⟨q267 a b H0, ⟨q268 a b H0, ⟨q269 a b H0, ⟨q271 a b H0, ⟨q272 a b H0, ⟨q273 a b H0, ⟨q276 a b H0, ⟨q42 a b H0, ⟨q43 a b H0, ⟨q49 a b H0, ⟨q14 a b H0, ⟨q50 a b H0, trivial⟩⟩⟩⟩⟩⟩⟩⟩⟩⟩⟩⟩⟩⟩⟩⟩⟩⟩⟩⟩⟩⟩⟩⟩⟩⟩⟩⟩⟩ (by kernel_rfl) (by kernel_rfl) (by kernel_rfl)
def o278 : Ob := (170, [.int .i64 25, .sym .i64 50, .sym .i64 53], .ret (.int .i64 1))
theorem q278 (a b : Int) (H : Hy a b) (hc : a < b) : Ans (i0 a b) (s0 a b) o278 := by
  have H0 := H
  have hc0 := hc
  obtain ⟨h1, h2, h3, h4⟩ := H
  have ea := q0_lt a
  have fa : qn a 0 = (a % 4294967296).toNat := rfl
  have eb := q0_lt b
  have fb : qn b 0 = (b % 4294967296).toNat := rfl
  exact ans [⟨.convI .i32 (.c (.sym .i64 50)), .sym .i32 0⟩,
    ⟨.convI .i32 (.c (.sym .i64 53)), .sym .i32 1⟩,
    ⟨.bin .neq (.c (.sym .i64 50)) (.c (.sym .i64 53)), .bool true⟩]
    (⟨(Eq.trans (b := some (.int .i32 (IntKind.i32.wrap (a : Int)))) (by kernel_rfl) (f_int (p := (IntKind.i32.wrap (a : Int))) (q := (a : Int)) (by simp only [IntKind.wrap_i64, IntKind.wrap_i32, IntKind.wrap_u64, IntKind.wrap_u32, Int.tdiv_one, Int.tmod_one] <;> omega))), ⟨(Eq.trans (b := some (.int .i32 (IntKind.i32.wrap (b : Int)))) (by kernel_rfl) (f_int (p := (IntKind.i32.wrap (b : Int))) (q := (b : Int)) (by simp only [IntKind.wrap_i64, IntKind.wrap_i32, IntKind.wrap_u64, IntKind.wrap_u32, Int.tdiv_one, Int.tmod_one] <;> omega))), ⟨(Eq.trans (b := some (.bool (((a : Int) != (b : Int))))) (by kernel_rfl) (f_bool (q := true) (bne_iff_ne.2 (by omega)))), trivial⟩⟩⟩)
    []
    trivial (by kernel_rfl) (by kernel_rfl) (by kernel_rfl)
def o279 : Ob := (170, [.int .i64 25, .sym .i64 50, .sym .i64 53], .ret (.int .i64 0))
theorem q279 (a b : Int) (H : Hy a b) (hc : a = b) : Ans (i0 a b) (s0 a b) o279 := by
  have H0 := H
  have hc0 := hc
  obtain ⟨h1, h2, h3, h4⟩ := H
  have ea := q0_lt a
  have fa : qn a 0 = (a % 4294967296).toNat := rfl
  have eb := q0_lt b
  have fb : qn b 0 = (b % 4294967296).toNat := rfl
  exact ans [⟨.convI .i32 (.c (.sym .i64 50)), .sym .i32 0⟩,
    ⟨.convI .i32 (.c (.sym .i64 53)), .sym .i32 1⟩,
    ⟨.bin .neq (.c (.sym .i64 50)) (.c (.sym .i64 53)), .bool false⟩]
    (⟨(Eq.trans (b := some (.int .i32 (IntKind.i32.wrap (a : Int)))) (by kernel_rfl) (f_int (p := (IntKind.i32.wrap (a : Int))) (q := (a : Int)) (by simp only [IntKind.wrap_i64, IntKind.wrap_i32, IntKind.wrap_u64, IntKind.wrap_u32, Int.tdiv_one, Int.tmod_one] <;> omega))), ⟨(Eq.trans (b := some (.int .i32 (IntKind.i32.wrap (b : Int)))) (by kernel_rfl) (f_int (p := (IntKind.i32.wrap (b : Int))) (q := (b : Int)) (by simp only [IntKind.wrap_i64, IntKind.wrap_i32, IntKind.wrap_u64, IntKind.wrap_u32, Int.tdiv_one, Int.tmod_one] <;> omega))), ⟨(Eq.trans (b := some (.bool (((a : Int) != (b : Int))))) (by kernel_rfl) (f_bool (q := false) (bne_eq_false_iff_eq.2 (by omega)))), trivial⟩⟩⟩)
    []
    trivial (by kernel_rfl) (by kernel_rfl) (by kernel_rfl)
def o280 : Ob := (170, [.int .i64 25, .sym .i64 50, .sym .i64 53], .ret (.int .i64 1))
theorem q280 (a b : Int) (H : Hy a b) (hc : b < a) : Ans (i0 a b) (s0 a b) o280 := by
  have H0 := H
  have hc0 := hc
  obtain ⟨h1, h2, h3, h4⟩ := H
  have ea := q0_lt a
  have fa : qn a 0 = (a % 4294967296).toNat := rfl
  have eb := q0_lt b
  have fb : qn b 0 = (b % 4294967296).toNat := rfl
  exact ans [⟨.convI .i32 (.c (.sym .i64 50)), .sym .i32 0⟩,
    ⟨.convI .i32 (.c (.sym .i64 53)), .sym .i32 1⟩,
    ⟨.bin .neq (.c (.sym .i64 50)) (.c (.sym .i64 53)), .bool true⟩]
    (⟨(Eq.trans (b := some (.int .i32 (IntKind.i32.wrap (a : Int)))) (by kernel_rfl) (f_int (p := (IntKind.i32.wrap (a : Int))) (q := (a : Int)) (by simp only [IntKind.wrap_i64, IntKind.wrap_i32, IntKind.wrap_u64, IntKind.wrap_u32, Int.tdiv_one, Int.tmod_one] <;> omega))), ⟨(Eq.trans (b := some (.int .i32 (IntKind.i32.wrap (b : Int)))) (by kernel_rfl) (f_int (p := (IntKind.i32.wrap (b : Int))) (q := (b : Int)) (by simp only [IntKind.wrap_i64, IntKind.wrap_i32, IntKind.wrap_u64, IntKind.wrap_u32, Int.tdiv_one, Int.tmod_one] <;> omega))), ⟨(Eq.trans (b := some (.bool (((a : Int) != (b : Int))))) (by kernel_rfl) (f_bool (q := true) (bne_iff_ne.2 (by omega)))), trivial⟩⟩⟩)
    []
    trivial (by kernel_rfl) (by kernel_rfl) (by kernel_rfl)
def o281 : Ob := (170, [.int .i64 25, .sym .i64 50, .sym .i64 53], .ret (.sym .i64 58))
theorem q281 (a b : Int) (H : Hy a b) : Ans (i0 a b) (s0 a b) o281 := by
  show Ans (i0 a b) (s0 a b) (170, [.int .i64 25, .sym .i64 50, .sym .i64 53], .ret (.sym .i64 58))
  rcases Int.lt_trichotomy a b with h | h | h
  · exact (q278 a b H h).den (congrArg (Vl.int .i64) ((by (first | rfl | omega | (simp only [tr] <;> split <;> omega) | (simp only [tr] <;> omega)) : (1 : Int) = ((tr (a ≠ b)) : Int))))
  · exact (q279 a b H h).den (congrArg (Vl.int .i64) ((by (first | rfl | omega | (simp only [tr] <;> split <;> omega) | (simp only [tr] <;> omega)) : (0 : Int) = ((tr (a ≠ b)) : Int))))
  · exact (q280 a b H h).den (congrArg (Vl.int .i64) ((by (first | rfl | omega | (simp only [tr] <;> split <;> omega) | (simp only [tr] <;> omega)) : (1 : Int) = ((tr (a ≠ b)) : Int))))
def o282 : Ob := (5, [.symS 40, .nils], .ret (.tup [.agg [.str [77], .bool false, .nils, .nils, .sl [] [.agg [.int .i64 0, .int .i64 0, .int .i64 0, .int .i64 0, .nils, .int .i64 0, .int .i64 0], .agg [.int .i64 1, .int .i64 0, .int .i64 0, .int .i64 0, .nils, .int .i64 4, .int .i64 0], .agg [.int .i64 2, .int .i64 0, .int .i64 0, .int .i64 0, .nils, .int .i64 1, .int .i64 0], .agg [.int .i64 3, .int .i64 0, .int .i64 0, .int .i64 0, .nils, .int .i64 1, .int .i64 0], .agg [.int .i64 4, .int .i64 0, .int .i64 0, .int .i64 0, .nils, .int .i64 1, .int .i64 0], .agg [.int .i64 5, .int .i64 0, .int .i64 0, .int .i64 0, .nils, .int .i64 4, .int .i64 0], .agg [.int .i64 6, .int .i64 0, .int .i64 0, .int .i64 0, .nils, .int .i64 4, .int .i64 0], .agg [.int .i64 7, .int .i64 0, .int .i64 0, .int .i64 0, .nils, .int .i64 0, .int .i64 0]], .nils, .sl [] [.agg [.str [99], .int .i64 2, .sym .i64 58, .str [], .bool false]], .nils, .nils, .nils], .int .i64 0, .int .i64 0]))
theorem q282 (a b : Int) (H : Hy a b) : Ans (i0 a b) (s0 a b) o282 := by
  have H0 := H
  exact ans []
    (trivial)
    [o277,
    o54,
    o57,
    o281]
    ⟨q277 a b H0, ⟨q54 a b H0, ⟨q57 a b H0, ⟨q281 a b H0, trivial⟩⟩⟩⟩ (by kernel_rfl) (by kernel_rfl) (by kernel_rfl)
def o283 : Ob := (69, [.symS 41, .str [32, 9, 10, 13]], .ret (.symS 41))
theorem q283 (a b : Int) (H : Hy a b) : Ans (i0 a b) (s0 a b) o283 := by
  have H0 := H
  exact ans [⟨.bin .eql (.c (.symS 41)) (.c (.str [])), .bool false⟩,
    ⟨.len true (.c (.symS 41)), .int .i64 51⟩,
    ⟨.idxStr (.c (.symS 41)) (.c (.int .i64 0)), .int .u8 77⟩]
    (⟨by kernel_rfl, ⟨by kernel_rfl, ⟨by kernel_rfl, trivial⟩⟩⟩)
    []
    trivial (by kernel_rfl) (by kernel_rfl) (by kernel_rfl)
def o284 : Ob := (70, [.symS 41, .str [40, 42]], .ret (.bool false))
theorem q284 (a b : Int) (H : Hy a b) : Ans (i0 a b) (s0 a b) o284 := by
  have H0 := H
  exact ans [⟨.len true (.c (.symS 41)), .int .i64 51⟩,
    ⟨.slcStr (.c (.symS 41)) none (some (.c (.int .i64 2))), .str [77, 79]⟩]
    (⟨by kernel_rfl, ⟨by kernel_rfl, trivial⟩⟩)
    []
    trivial (by kernel_rfl) (by kernel_rfl) (by kernel_rfl)
def o285 : Ob := (129, [.symS 41], .ret (.str [77, 79, 68, 85, 76, 69]))
theorem q285 (a b : Int) (H : Hy a b) : Ans (i0 a b) (s0 a b) o285 := by
  show Ans (i0 a b) (s0 a b) (129, [.symS 41], .ret (.str [77, 79, 68, 85, 76, 69]))
  letI := bare (i0 a b) (s0 a b)
  exact word_ob [77, 79, 68, 85, 76, 69] [32, 77, 59, 32, 67, 79, 78, 83, 84, 32, 99, 32, 61, 32, 48, (dg a 7), (dg a 6), (dg a 5), (dg a 4), (dg a 3), (dg a 2), (dg a 1), (dg a 0), 72, 32, 60, 32, 48, (dg b 7), (dg b 6), (dg b 5), (dg b 4), (dg b 3), (dg b 2), (dg b 1), (dg b 0), 72, 59, 32, 69, 78, 68, 32, 77, 46] (by kernel_rfl) (by kernel_rfl) rfl (al_all (by kernel_rfl)) (nal_ok (by kernel_rfl))
def o286 : Ob := (73, [.symS 41], .ret (.tup [.agg [.int .i64 2, .str [77, 79, 68, 85, 76, 69], .int .i64 0, .int .i64 0], .int .i64 6, .int .i64 0]))
theorem q286 (a b : Int) (H : Hy a b) : Ans (i0 a b) (s0 a b) o286 := by
  have H0 := H
  exact ans [⟨.idxStr (.c (.symS 41)) (.c (.int .i64 0)), .int .u8 77⟩]
    (⟨by kernel_rfl, trivial⟩)
    [o285]
    ⟨q285 a b H0, trivial⟩ (by kernel_rfl) (by kernel_rfl) (by kernel_rfl)
def o287 : Ob := (69, [.symS 114, .str [32, 9, 10, 13]], .ret (.symS 115))
theorem q287 (a b : Int) (H : Hy a b) : Ans (i0 a b) (s0 a b) o287 := by
  have H0 := H
  exact ans [⟨.bin .eql (.c (.symS 114)) (.c (.str [])), .bool false⟩,
    ⟨.len true (.c (.symS 114)), .int .i64 45⟩,
    ⟨.idxStr (.c (.symS 114)) (.c (.int .i64 0)), .int .u8 32⟩,
    ⟨.slcStr (.c (.symS 114)) (some (.c (.int .i64 1))) none, .symS 115⟩,
    ⟨.len true (.c (.symS 115)), .int .i64 44⟩,
    ⟨.idxStr (.c (.symS 115)) (.c (.int .i64 0)), .int .u8 77⟩]
    (⟨by kernel_rfl, ⟨by kernel_rfl, ⟨by kernel_rfl, ⟨by kernel_rfl, ⟨by kernel_rfl, ⟨by kernel_rfl, trivial⟩⟩⟩⟩⟩⟩)
    []
    trivial (by kernel_rfl) (by kernel_rfl) (by kernel_rfl)
def o288 : Ob := (70, [.symS 115, .str [40, 42]], .ret (.bool false))
theorem q288 (a b : Int) (H : Hy a b) : Ans (i0 a b) (s0 a b) o288 := by
  have H0 := H
  exact ans [⟨.len true (.c (.symS 115)), .int .i64 44⟩,
    ⟨.slcStr (.c (.symS 115)) none (some (.c (.int .i64 2))), .str [77, 59]⟩]
    (⟨by kernel_rfl, ⟨by kernel_rfl, trivial⟩⟩)
    []
    trivial (by kernel_rfl) (by kernel_rfl) (by kernel_rfl)
def o289 : Ob := (129, [.symS 115], .ret (.str [77]))
theorem q289 (a b : Int) (H : Hy a b) : Ans (i0 a b) (s0 a b) o289 := by
  show Ans (i0 a b) (s0 a b) (129, [.symS 115], .ret (.str [77]))
  letI := bare (i0 a b) (s0 a b)
  exact word_ob [77] [59, 32, 67, 79, 78, 83, 84, 32, 99, 32, 61, 32, 48, (dg a 7), (dg a 6), (dg a 5), (dg a 4), (dg a 3), (dg a 2), (dg a 1), (dg a 0), 72, 32, 60, 32, 48, (dg b 7), (dg b 6), (dg b 5), (dg b 4), (dg b 3), (dg b 2), (dg b 1), (dg b 0), 72, 59, 32, 69, 78, 68, 32, 77, 46] (by kernel_rfl) (by kernel_rfl) rfl (al_all (by kernel_rfl)) (nal_ok (by kernel_rfl))
def o290 : Ob := (73, [.symS 115], .ret (.tup [.agg [.int .i64 1, .str [77], .int .i64 0, .int .i64 0], .int .i64 1, .int .i64 0]))
theorem q290 (a b : Int) (H : Hy a b) : Ans (i0 a b) (s0 a b) o290 := by
  have H0 := H
  exact ans [⟨.idxStr (.c (.symS 115)) (.c (.int .i64 0)), .int .u8 77⟩]
    (⟨by kernel_rfl, trivial⟩)
    [o289]
    ⟨q289 a b H0, trivial⟩ (by kernel_rfl) (by kernel_rfl) (by kernel_rfl)
def o291 : Ob := (69, [.symS 116, .str [32, 9, 10, 13]], .ret (.symS 116))
theorem q291 (a b : Int) (H : Hy a b) : Ans (i0 a b) (s0 a b) o291 := by
  have H0 := H
  exact ans [⟨.bin .eql (.c (.symS 116)) (.c (.str [])), .bool false⟩,
    ⟨.len true (.c (.symS 116)), .int .i64 43⟩,
    ⟨.idxStr (.c (.symS 116)) (.c (.int .i64 0)), .int .u8 59⟩]
    (⟨by kernel_rfl, ⟨by kernel_rfl, ⟨by kernel_rfl, trivial⟩⟩⟩)
    []
    trivial (by kernel_rfl) (by kernel_rfl) (by kernel_rfl)
def o292 : Ob := (70, [.symS 116, .str [40, 42]], .ret (.bool false))
theorem q292 (a b : Int) (H : Hy a b) : Ans (i0 a b) (s0 a b) o292 := by
  have H0 := H
  exact ans [⟨.len true (.c (.symS 116)), .int .i64 43⟩,
    ⟨.slcStr (.c (.symS 116)) none (some (.c (.int .i64 2))), .str [59, 32]⟩]
    (⟨by kernel_rfl, ⟨by kernel_rfl, trivial⟩⟩)
    []
    trivial (by kernel_rfl) (by kernel_rfl) (by kernel_rfl)
def o293 : Ob := (129, [.symS 116], .ret (.str []))
theorem q293 (a b : Int) (H : Hy a b) : Ans (i0 a b) (s0 a b) o293 := by
  show Ans (i0 a b) (s0 a b) (129, [.symS 116], .ret (.str []))
  letI := bare (i0 a b) (s0 a b)
  exact word_ob [] [59, 32, 67, 79, 78, 83, 84, 32, 99, 32, 61, 32, 48, (dg a 7), (dg a 6), (dg a 5), (dg a 4), (dg a 3), (dg a 2), (dg a 1), (dg a 0), 72, 32, 60, 32, 48, (dg b 7), (dg b 6), (dg b 5), (dg b 4), (dg b 3), (dg b 2), (dg b 1), (dg b 0), 72, 59, 32, 69, 78, 68, 32, 77, 46] (by kernel_rfl) (by kernel_rfl) rfl (al_all (by kernel_rfl)) (nal_ok (by kernel_rfl))
def o294 : Ob := (73, [.symS 116], .ret (.tup [.agg [.int .i64 6, .str [59], .int .i64 0, .int .i64 0], .int .i64 1, .int .i64 0]))
theorem q294 (a b : Int) (H : Hy a b) : Ans (i0 a b) (s0 a b) o294 := by
  have H0 := H
  exact ans [⟨.idxStr (.c (.symS 116)) (.c (.int .i64 0)), .int .u8 59⟩,
    ⟨.len true (.c (.symS 116)), .int .i64 43⟩,
    ⟨.slcStr (.c (.symS 116)) none (some (.c (.int .i64 2))), .str [59, 32]⟩,
    ⟨.slcStr (.c (.symS 116)) none (some (.c (.int .i64 1))), .str [59]⟩]
    (⟨by kernel_rfl, ⟨by kernel_rfl, ⟨by kernel_rfl, ⟨by kernel_rfl, trivial⟩⟩⟩⟩)
    [o293,
    o14]
    ⟨q293 a b H0, ⟨q14 a b H0, trivial⟩⟩ (by kernel_rfl) (by kernel_rfl) (by kernel_rfl)
def o295 : Ob := (69, [.symS 117, .str [32, 9, 10, 13]], .ret (.symS 118))
theorem q295 (a b : Int) (H : Hy a b) : Ans (i0 a b) (s0 a b) o295 := by
  have H0 := H
  exact ans [⟨.bin .eql (.c (.symS 117)) (.c (.str [])), .bool false⟩,
    ⟨.len true (.c (.symS 117)), .int .i64 42⟩,
    ⟨.idxStr (.c (.symS 117)) (.c (.int .i64 0)), .int .u8 32⟩,
    ⟨.slcStr (.c (.symS 117)) (some (.c (.int .i64 1))) none, .symS 118⟩,
    ⟨.len true (.c (.symS 118)), .int .i64 41⟩,
    ⟨.idxStr (.c (.symS 118)) (.c (.int .i64 0)), .int .u8 67⟩]
    (⟨by kernel_rfl, ⟨by kernel_rfl, ⟨by kernel_rfl, ⟨by kernel_rfl, ⟨by kernel_rfl, ⟨by kernel_rfl, trivial⟩⟩⟩⟩⟩⟩)
    []
    trivial (by kernel_rfl) (by kernel_rfl) (by kernel_rfl)
def o296 : Ob := (70, [.symS 118, .str [40, 42]], .ret (.bool false))
theorem q296 (a b : Int) (H : Hy a b) : Ans (i0 a b) (s0 a b) o296 := by
  have H0 := H
  exact ans [⟨.len true (.c (.symS 118)), .int .i64 41⟩,
    ⟨.slcStr (.c (.symS 118)) none (some (.c (.int .i64 2))), .str [67, 79]⟩]
    (⟨by kernel_rfl, ⟨by kernel_rfl, trivial⟩⟩)
    []
    trivial (by kernel_rfl) (by kernel_rfl) (by kernel_rfl)
def o297 : Ob := (129, [.symS 118], .ret (.str [67, 79, 78, 83, 84]))
theorem q297 (a b : Int) (H : Hy a b) : Ans (i0 a b) (s0 a b) o297 := by
  show Ans (i0 a b) (s0 a b) (129, [.symS 118], .ret (.str [67, 79, 78, 83, 84]))
  letI := bare (i0 a b) (s0 a b)
  exact word_ob [67, 79, 78, 83, 84] [32, 99, 32, 61, 32, 48, (dg a 7), (dg a 6), (dg a 5), (dg a 4), (dg a 3), (dg a 2), (dg a 1), (dg a 0), 72, 32, 60, 32, 48, (dg b 7), (dg b 6), (dg b 5), (dg b 4), (dg b 3), (dg b 2), (dg b 1), (dg b 0), 72, 59, 32, 69, 78, 68, 32, 77, 46] (by kernel_rfl) (by kernel_rfl) rfl (al_all (by kernel_rfl)) (nal_ok (by kernel_rfl))
def o298 : Ob := (73, [.symS 118], .ret (.tup [.agg [.int .i64 2, .str [67, 79, 78, 83, 84], .int .i64 0, .int .i64 0], .int .i64 5, .int .i64 0]))
theorem q298 (a b : Int) (H : Hy a b) : Ans (i0 a b) (s0 a b) o298 := by
  have H0 := H
  exact ans [⟨.idxStr (.c (.symS 118)) (.c (.int .i64 0)), .int .u8 67⟩]
    (⟨by kernel_rfl, trivial⟩)
    [o297]
    ⟨q297 a b H0, trivial⟩ (by kernel_rfl) (by kernel_rfl) (by kernel_rfl)
def o299 : Ob := (69, [.symS 119, .str [32, 9, 10, 13]], .ret (.symS 120))
theorem q299 (a b : Int) (H : Hy a b) : Ans (i0 a b) (s0 a b) o299 := by
  have H0 := H
  exact ans [⟨.bin .eql (.c (.symS 119)) (.c (.str [])), .bool false⟩,
    ⟨.len true (.c (.symS 119)), .int .i64 36⟩,
    ⟨.idxStr (.c (.symS 119)) (.c (.int .i64 0)), .int .u8 32⟩,
    ⟨.slcStr (.c (.symS 119)) (some (.c (.int .i64 1))) none, .symS 120⟩,
    ⟨.len true (.c (.symS 120)), .int .i64 35⟩,
    ⟨.idxStr (.c (.symS 120)) (.c (.int .i64 0)), .int .u8 99⟩]
    (⟨by kernel_rfl, ⟨by kernel_rfl, ⟨by kernel_rfl, ⟨by kernel_rfl, ⟨by kernel_rfl, ⟨by kernel_rfl, trivial⟩⟩⟩⟩⟩⟩)
    []
    trivial (by kernel_rfl) (by kernel_rfl) (by kernel_rfl)
def o300 : Ob := (70, [.symS 120, .str [40, 42]], .ret (.bool false))
theorem q300 (a b : Int) (H : Hy a b) : Ans (i0 a b) (s0 a b) o300 := by
  have H0 := H
  exact ans [⟨.len true (.c (.symS 120)), .int .i64 35⟩,
    ⟨.slcStr (.c (.symS 120)) none (some (.c (.int .i64 2))), .str [99, 32]⟩]
    (⟨by kernel_rfl, ⟨by kernel_rfl, trivial⟩⟩)
    []
    trivial (by kernel_rfl) (by kernel_rfl) (by kernel_rfl)
def o301 : Ob := (129, [.symS 120], .ret (.str [99]))
theorem q301 (a b : Int) (H : Hy a b) : Ans (i0 a b) (s0 a b) o301 := by
  show Ans (i0 a b) (s0 a b) (129, [.symS 120], .ret (.str [99]))
  letI := bare (i0 a b) (s0 a b)
  exact word_ob [99] [32, 61, 32, 48, (dg a 7), (dg a 6), (dg a 5), (dg a 4), (dg a 3), (dg a 2), (dg a 1), (dg a 0), 72, 32, 60, 32, 48, (dg b 7), (dg b 6), (dg b 5), (dg b 4), (dg b 3), (dg b 2), (dg b 1), (dg b 0), 72, 59, 32, 69, 78, 68, 32, 77, 46] (by kernel_rfl) (by kernel_rfl) rfl (al_all (by kernel_rfl)) (nal_ok (by kernel_rfl))
def o302 : Ob := (73, [.symS 120], .ret (.tup [.agg [.int .i64 1, .str [99], .int .i64 0, .int .i64 0], .int .i64 1, .int .i64 0]))
theorem q302 (a b : Int) (H : Hy a b) : Ans (i0 a b) (s0 a b) o302 := by
  have H0 := H
  exact ans [⟨.idxStr (.c (.symS 120)) (.c (.int .i64 0)), .int .u8 99⟩]
    (⟨by kernel_rfl, trivial⟩)
    [o301]
    ⟨q301 a b H0, trivial⟩ (by kernel_rfl) (by kernel_rfl) (by kernel_rfl)
def o303 : Ob := (69, [.symS 121, .str [32, 9, 10, 13]], .ret (.symS 122))
theorem q303 (a b : Int) (H : Hy a b) : Ans (i0 a b) (s0 a b) o303 := by
  have H0 := H
  exact ans [⟨.bin .eql (.c (.symS 121)) (.c (.str [])), .bool false⟩,
    ⟨.len true (.c (.symS 121)), .int .i64 34⟩,
    ⟨.idxStr (.c (.symS 121)) (.c (.int .i64 0)), .int .u8 32⟩,
    ⟨.slcStr (.c (.symS 121)) (some (.c (.int .i64 1))) none, .symS 122⟩,
    ⟨.len true (.c (.symS 122)), .int .i64 33⟩,
    ⟨.idxStr (.c (.symS 122)) (.c (.int .i64 0)), .int .u8 61⟩]
    (⟨by kernel_rfl, ⟨by kernel_rfl, ⟨by kernel_rfl, ⟨by kernel_rfl, ⟨by kernel_rfl, ⟨by kernel_rfl, trivial⟩⟩⟩⟩⟩⟩)
    []
    trivial (by kernel_rfl) (by kernel_rfl) (by kernel_rfl)
def o304 : Ob := (70, [.symS 122, .str [40, 42]], .ret (.bool false))
theorem q304 (a b : Int) (H : Hy a b) : Ans (i0 a b) (s0 a b) o304 := by
  have H0 := H
  exact ans [⟨.len true (.c (.symS 122)), .int .i64 33⟩,
    ⟨.slcStr (.c (.symS 122)) none (some (.c (.int .i64 2))), .str [61, 32]⟩]
    (⟨by kernel_rfl, ⟨by kernel_rfl, trivial⟩⟩)
    []
    trivial (by kernel_rfl) (by kernel_rfl) (by kernel_rfl)
def o305 : Ob := (129, [.symS 122], .ret (.str []))
theorem q305 (a b : Int) (H : Hy a b) : Ans (i0 a b) (s0 a b) o305 := by
  show Ans (i0 a b) (s0 a b) (129, [.symS 122], .ret (.str []))
  letI := bare (i0 a b) (s0 a b)
  exact word_ob [] [61, 32, 48, (dg a 7), (dg a 6), (dg a 5), (dg a 4), (dg a 3), (dg a 2), (dg a 1), (dg a 0), 72, 32, 60, 32, 48, (dg b 7), (dg b 6), (dg b 5), (dg b 4), (dg b 3), (dg b 2), (dg b 1), (dg b 0), 72, 59, 32, 69, 78, 68, 32, 77, 46] (by kernel_rfl) (by kernel_rfl) rfl (al_all (by kernel_rfl)) (nal_ok (by kernel_rfl))
def o306 : Ob := (73, [.symS 122], .ret (.tup [.agg [.int .i64 6, .str [61], .int .i64 0, .int .i64 0], .int .i64 1, .int .i64 0]))
theorem q306 (a b : Int) (H : Hy a b) : Ans (i0 a b) (s0 a b) o306 := by
  have H0 := H
  exact ans [⟨.idxStr (.c (.symS 122)) (.c (.int .i64 0)), .int .u8 61⟩,
    ⟨.len true (.c (.symS 122)), .int .i64 33⟩,
    ⟨.slcStr (.c (.symS 122)) none (some (.c (.int .i64 2))), .str [61, 32]⟩,
    ⟨.slcStr (.c (.symS 122)) none (some (.c (.int .i64 1))), .str [61]⟩]
    (⟨by kernel_rfl, ⟨by kernel_rfl, ⟨by kernel_rfl, ⟨by kernel_rfl, trivial⟩⟩⟩⟩)
    [o305,
    o27]
    ⟨q305 a b H0, ⟨q27 a b H0, trivial⟩⟩ (by kernel_rfl) (by kernel_rfl) (by kernel_rfl)
def o307 : Ob := (69, [.symS 123, .str [32, 9, 10, 13]], .ret (.symS 124))
theorem q307 (a b : Int) (H : Hy a b) : Ans (i0 a b) (s0 a b) o307 := by
  have H0 := H
  exact ans [⟨.bin .eql (.c (.symS 123)) (.c (.str [])), .bool false⟩,
    ⟨.len true (.c (.symS 123)), .int .i64 32⟩,
    ⟨.idxStr (.c (.symS 123)) (.c (.int .i64 0)), .int .u8 32⟩,
    ⟨.slcStr (.c (.symS 123)) (some (.c (.int .i64 1))) none, .symS 124⟩,
    ⟨.len true (.c (.symS 124)), .int .i64 31⟩,
    ⟨.idxStr (.c (.symS 124)) (.c (.int .i64 0)), .int .u8 48⟩]
    (⟨by kernel_rfl, ⟨by kernel_rfl, ⟨by kernel_rfl, ⟨by kernel_rfl, ⟨by kernel_rfl, ⟨by kernel_rfl, trivial⟩⟩⟩⟩⟩⟩)
    []
    trivial (by kernel_rfl) (by kernel_rfl) (by kernel_rfl)
def o308 : Ob := (70, [.symS 124, .str [40, 42]], .ret (.bool false))
theorem q308 (a b : Int) (H : Hy a b) : Ans (i0 a b) (s0 a b) o308 := by
  have H0 := H
  exact ans [⟨.len true (.c (.symS 124)), .int .i64 31⟩,
    ⟨.slcStr (.c (.symS 124)) none (some (.c (.int .i64 2))), .symS 56⟩,
    ⟨.bin .eql (.c (.symS 56)) (.c (.str [40, 42])), .bool false⟩]
    (⟨by kernel_rfl, ⟨by kernel_rfl, ⟨by kernel_rfl, trivial⟩⟩⟩)
    []
    trivial (by kernel_rfl) (by kernel_rfl) (by kernel_rfl)
def o309 : Ob := (129, [.symS 124], .ret (.symS 0))
theorem q309 (a b : Int) (H : Hy a b) : Ans (i0 a b) (s0 a b) o309 := by
  show Ans (i0 a b) (s0 a b) (129, [.symS 124], .ret (.symS 0))
  letI := bare (i0 a b) (s0 a b)
  exact word_ob (dgs a ++ [72]) [32, 60, 32, 48, (dg b 7), (dg b 6), (dg b 5), (dg b 4), (dg b 3), (dg b 2), (dg b 1), (dg b 0), 72, 59, 32, 69, 78, 68, 32, 77, 46] (by kernel_rfl) (by kernel_rfl) rfl (dgs_alnum a) (nal_ok (by kernel_rfl))
def o310 : Ob := (73, [.symS 124], .ret (.tup [.agg [.int .i64 3, .str [], .sym .i64 50, .int .i64 0], .int .i64 10, .int .i64 0]))
theorem q310 (a b : Int) (H : Hy a b) : Ans (i0 a b) (s0 a b) o310 := by
  have H0 := H
  exact ans [⟨.idxStr (.c (.symS 124)) (.c (.int .i64 0)), .int .u8 48⟩,
    ⟨.len true (.c (.symS 0)), .int .i64 10⟩]
    (⟨by kernel_rfl, ⟨by kernel_rfl, trivial⟩⟩)
    [o309,
    o35]
    ⟨q309 a b H0, ⟨q35 a b H0, trivial⟩⟩ (by kernel_rfl) (by kernel_rfl) (by kernel_rfl)
def o311 : Ob := (69, [.symS 125, .str [32, 9, 10, 13]], .ret (.symS 126))
theorem q311 (a b : Int) (H : Hy a b) : Ans (i0 a b) (s0 a b) o311 := by
  have H0 := H
  exact ans [⟨.bin .eql (.c (.symS 125)) (.c (.str [])), .bool false⟩,
    ⟨.len true (.c (.symS 125)), .int .i64 21⟩,
    ⟨.idxStr (.c (.symS 125)) (.c (.int .i64 0)), .int .u8 32⟩,
    ⟨.slcStr (.c (.symS 125)) (some (.c (.int .i64 1))) none, .symS 126⟩,
    ⟨.len true (.c (.symS 126)), .int .i64 20⟩,
    ⟨.idxStr (.c (.symS 126)) (.c (.int .i64 0)), .int .u8 60⟩]
    (⟨by kernel_rfl, ⟨by kernel_rfl, ⟨by kernel_rfl, ⟨by kernel_rfl, ⟨by kernel_rfl, ⟨by kernel_rfl, trivial⟩⟩⟩⟩⟩⟩)
    []
    trivial (by kernel_rfl) (by kernel_rfl) (by kernel_rfl)
def o312 : Ob := (70, [.symS 126, .str [40, 42]], .ret (.bool false))
theorem q312 (a b : Int) (H : Hy a b) : Ans (i0 a b) (s0 a b) o312 := by
  have H0 := H
  exact ans [⟨.len true (.c (.symS 126)), .int .i64 20⟩,
    ⟨.slcStr (.c (.symS 126)) none (some (.c (.int .i64 2))), .str [60, 32]⟩]
    (⟨by kernel_rfl, ⟨by kernel_rfl, trivial⟩⟩)
    []
    trivial (by kernel_rfl) (by kernel_rfl) (by kernel_rfl)
def o313 : Ob := (129, [.symS 126], .ret (.str []))
theorem q313 (a b : Int) (H : Hy a b) : Ans (i0 a b) (s0 a b) o313 := by
  show Ans (i0 a b) (s0 a b) (129, [.symS 126], .ret (.str []))
  letI := bare (i0 a b) (s0 a b)
  exact word_ob [] [60, 32, 48, (dg b 7), (dg b 6), (dg b 5), (dg b 4), (dg b 3), (dg b 2), (dg b 1), (dg b 0), 72, 59, 32, 69, 78, 68, 32, 77, 46] (by kernel_rfl) (by kernel_rfl) rfl (al_all (by kernel_rfl)) (nal_ok (by kernel_rfl))
def o314 : Ob := (224, [.str [43, 45, 42, 47, 126, 38, 46, 44, 59, 124, 40, 41, 91, 93, 123, 125, 58, 94, 61, 35, 60, 62], .int .u8 60], .ret (.int .i64 20))
theorem q314 (a b : Int) (H : Hy a b) : Ans (i0 a b) (s0 a b) o314 := by
  show Ans (i0 a b) (s0 a b) (224, [.str [43, 45, 42, 47, 126, 38, 46, 44, 59, 124, 40, 41, 91, 93, 123, 125, 58, 94, 61, 35, 60, 62], .int .u8 60], .ret (.int .i64 20))
  letI := bare (i0 a b) (s0 a b)
  exact index_ob _ _ _ (by kernel_rfl)
def o315 : Ob := (73, [.symS 126], .ret (.tup [.agg [.int .i64 6, .str [60], .int .i64 0, .int .i64 0], .int .i64 1, .int .i64 0]))
theorem q315 (a b : Int) (H : Hy a b) : Ans (i0 a b) (s0 a b) o315 := by
  have H0 := H
  exact ans [⟨.idxStr (.c (.symS 126)) (.c (.int .i64 0)), .int .u8 60⟩,
    ⟨.len true (.c (.symS 126)), .int .i64 20⟩,
    ⟨.slcStr (.c (.symS 126)) none (some (.c (.int .i64 2))), .str [60, 32]⟩,
    ⟨.slcStr (.c (.symS 126)) none (some (.c (.int .i64 1))), .str [60]⟩]
    (⟨by kernel_rfl, ⟨by kernel_rfl, ⟨by kernel_rfl, ⟨by kernel_rfl, trivial⟩⟩⟩⟩)
    [o313,
    o314]
    ⟨q313 a b H0, ⟨q314 a b H0, trivial⟩⟩ (by kernel_rfl) (by kernel_rfl) (by kernel_rfl)
def o316 : Ob := (22, [.symS 41], .ret (.tup [.sl [] [.agg [.int .i64 2, .str [77, 79, 68, 85, 76, 69], .int .i64 0, .int .i64 0], .agg [.int .i64 1, .str [77], .int .i64 0, .int .i64 7], .agg [.int .i64 6, .str [59], .int .i64 0, .int .i64 8], .agg [.int .i64 2, .str [67, 79, 78, 83, 84], .int .i64 0, .int .i64 10], .agg [.int .i64 1, .str [99], .int .i64 0, .int .i64 16], .agg [.int .i64 6, .str [61], .int .i64 0, .int .i64 18], .agg [.int .i64 3, .str [], .sym .i64 50, .int .i64 20], .agg [.int .i64 6, .str [60], .int .i64 0, .int .i64 31], .agg [.int .i64 3, .str [], .sym .i64 53, .int .i64 33], .agg [.int .i64 6, .str [59], .int .i64 0, .int .i64 43], .agg [.int .i64 2, .str [69, 78, 68], .int .i64 0, .int .i64 45], .agg [.int .i64 1, .str [77], .int .i64 0, .int .i64 49], .agg [.int .i64 6, .str [46], .int .i64 0, .int .i64 50], .agg [.int .i64 0, .str [], .int .i64 0, .int .i64 51]], .int .i64 0, .int .i64 0]))
theorem q316 (a b : Int) (H : Hy a b) : Ans (i0 a b) (s0 a b) o316 := by
  have H0 := H
  exact ans [⟨.len true (.c (.symS 41)), .int .i64 51⟩,
    ⟨.slcStr (.c (.symS 41)) (some (.c (.int .i64 0))) none, .symS 41⟩,
    ⟨.bin .eql (.c (.symS 41)) (.c (.str [])), .bool false⟩,
    ⟨.slcStr (.c (.symS 41)) (some (.c (.int .i64 6))) none, .symS 114⟩,
    ⟨.len true (.c (.symS 115)), .int .i64 44⟩,
    ⟨.bin .eql (.c (.symS 115)) (.c (.str [])), .bool false⟩,
    ⟨.slcStr (.c (.symS 41)) (some (.c (.int .i64 8))) none, .symS 116⟩,
    ⟨.len true (.c (.symS 116)), .int .i64 43⟩,
    ⟨.bin .eql (.c (.symS 116)) (.c (.str [])), .bool false⟩,
    ⟨.slcStr (.c (.symS 41)) (some (.c (.int .i64 9))) none, .symS 117⟩,
    ⟨.len true (.c (.symS 118)), .int .i64 41⟩,
    ⟨.bin .eql (.c (.symS 118)) (.c (.str [])), .bool false⟩,
    ⟨.slcStr (.c (.symS 41)) (some (.c (.int .i64 15))) none, .symS 119⟩,
    ⟨.len true (.c (.symS 120)), .int .i64 35⟩,
    ⟨.bin .eql (.c (.symS 120)) (.c (.str [])), .bool false⟩,
    ⟨.slcStr (.c (.symS 41)) (some (.c (.int .i64 17))) none, .symS 121⟩,
    ⟨.len true (.c (.symS 122)), .int .i64 33⟩,
    ⟨.bin .eql (.c (.symS 122)) (.c (.str [])), .bool false⟩,
    ⟨.slcStr (.c (.symS 41)) (some (.c (.int .i64 19))) none, .symS 123⟩,
    ⟨.len true (.c (.symS 124)), .int .i64 31⟩,
    ⟨.bin .eql (.c (.symS 124)) (.c (.str [])), .bool false⟩,
    ⟨.slcStr (.c (.symS 41)) (some (.c (.int .i64 30))) none, .symS 125⟩,
    ⟨.len true (.c (.symS 126)), .int .i64 20⟩,
    ⟨.bin .eql (.c (.symS 126)) (.c (.str [])), .bool false⟩,
    ⟨.slcStr (.c (.symS 41)) (some (.c (.int .i64 32))) none, .symS 59⟩,
    ⟨.len true (.c (.symS 60)), .int .i64 18⟩,
    ⟨.bin .eql (.c (.symS 60)) (.c (.str [])), .bool false⟩,
    ⟨.slcStr (.c (.symS 41)) (some (.c (.int .i64 43))) none, .str [59, 32, 69, 78, 68, 32, 77, 46]⟩,
    ⟨.slcStr (.c (.symS 41)) (some (.c (.int .i64 44))) none, .str [32, 69, 78, 68, 32, 77, 46]⟩,
    ⟨.slcStr (.c (.symS 41)) (some (.c (.int .i64 48))) none, .str [32, 77, 46]⟩,
    ⟨.slcStr (.c (.symS 41)) (some (.c (.int .i64 50))) none, .str [46]⟩,
    ⟨.slcStr (.c (.symS 41)) (some (.c (.int .i64 51))) none, .str []⟩]
    (⟨by kernel_rfl, ⟨by kernel_rfl, ⟨by kernel_rfl, ⟨by kernel_rfl, ⟨by kernel_rfl, ⟨by kernel_rfl, ⟨by kernel_rfl, ⟨by kernel_rfl, ⟨by kernel_rfl, ⟨by kernel_rfl, ⟨by kernel_rfl, ⟨by kernel_rfl, ⟨by kernel_rfl, ⟨by kernel_rfl, ⟨by kernel_rfl, ⟨by kernel_rfl, ⟨by kernel_rfl, ⟨by kernel_rfl, ⟨by kernel_rfl, ⟨by kernel_rfl, ⟨by kernel_rfl, ⟨by kernel_rfl, ⟨by kernel_rfl, ⟨by kernel_rfl, ⟨by kernel_rfl, ⟨by kernel_rfl, ⟨by kernel_rfl, ⟨by kernel_rfl, ⟨by kernel_rfl, ⟨by kernel_rfl, ⟨by kernel_rfl, ⟨by kernel_rfl, trivial⟩⟩⟩⟩⟩⟩⟩⟩⟩⟩⟩⟩⟩⟩⟩⟩⟩⟩⟩⟩⟩⟩⟩⟩⟩⟩⟩⟩⟩⟩⟩⟩)
    [o283,
    o284,
    o286,
    o287,
    o288,
    o290,
    o291,
    o292,
    o294,
    o295,
    o296,
    o298,
    o299,
    o300,
    o302,
    o303,
    o304,
    o306,
    o307,
    o308,
    o310,
    o311,
    o312,
    o315,
    o42,
    o43,
    o49,
    o14,
    o50]
    ⟨q283 a b H0, ⟨q284 a b H0, ⟨q286 a b H0, ⟨q287 a b H0, ⟨q288 a b H0, ⟨q290 a b H0, ⟨q291 a b H0, ⟨q292 a b H0, ⟨q294 a b H0, ⟨q295 a b H0, ⟨q296 a b H0, ⟨q298 a b H0, ⟨q299 a b H0, ⟨q300 a b H0, ⟨q302 a b H0, ⟨q303 a b H0, ⟨q304 a b H0, ⟨q306 a b H0, ⟨q307 a b H0, ⟨q308 a b H0, ⟨q310 a b H0, ⟨q311 a b H0, ⟨q312 a b H0, ⟨q315 a b H0, ⟨q42 a b H0, ⟨q43 a b H0, ⟨q49 a b H0, ⟨q14 a b H0, ⟨q50 a b H0, trivial⟩⟩⟩⟩⟩⟩⟩⟩⟩⟩⟩⟩⟩⟩⟩⟩⟩⟩⟩⟩⟩⟩⟩⟩⟩⟩⟩⟩⟩ (by kernel_rfl) (by kernel_rfl) (by kernel_rfl)
def o317 : Ob := (170, [.int .i64 26, .sym .i64 50, .sym .i64 53], .ret (.int .i64 1))
theorem q317 (a b : Int) (H : Hy a b) (hc : a < b) : Ans (i0 a b) (s0 a b) o317 := by
  have H0 := H
  have hc0 := hc
  obtain ⟨h1, h2, h3, h4⟩ := H
  have ea := q0_lt a
  have fa : qn a 0 = (a % 4294967296).toNat := rfl
  have eb := q0_lt b
  have fb : qn b 0 = (b % 4294967296).toNat := rfl
  exact ans [⟨.convI .i32 (.c (.sym .i64 50)), .sym .i32 0⟩,
    ⟨.convI .i32 (.c (.sym .i64 53)), .sym .i32 1⟩,
    ⟨.bin .lss (.c (.sym .i64 50)) (.c (.sym .i64 53)), .bool true⟩]
    (⟨(Eq.trans (b := some (.int .i32 (IntKind.i32.wrap (a : Int)))) (by kernel_rfl) (f_int (p := (IntKind.i32.wrap (a : Int))) (q := (a : Int)) (by simp only [IntKind.wrap_i64, IntKind.wrap_i32, IntKind.wrap_u64, IntKind.wrap_u32, Int.tdiv_one, Int.tmod_one] <;> omega))), ⟨(Eq.trans (b := some (.int .i32 (IntKind.i32.wrap (b : Int)))) (by kernel_rfl) (f_int (p := (IntKind.i32.wrap (b : Int))) (q := (b : Int)) (by simp only [IntKind.wrap_i64, IntKind.wrap_i32, IntKind.wrap_u64, IntKind.wrap_u32, Int.tdiv_one, Int.tmod_one] <;> omega))), ⟨(Eq.trans (b := some (.bool (decide ((a : Int) < (b : Int))))) (by kernel_rfl) (f_bool (q := true) (decide_eq_true (by omega)))), trivial⟩⟩⟩)
    []
    trivial (by kernel_rfl) (by kernel_rfl) (by kernel_rfl)
def o318 : Ob := (170, [.int .i64 26, .sym .i64 50, .sym .i64 53], .ret (.int .i64 0))
theorem q318 (a b : Int) (H : Hy a b) (hc : a = b) : Ans (i0 a b) (s0 a b) o318 := by
  have H0 := H
  have hc0 := hc
  obtain ⟨h1, h2, h3, h4⟩ := H
  have ea := q0_lt a
  have fa : qn a 0 = (a % 4294967296).toNat := rfl
  have eb := q0_lt b
  have fb : qn b 0 = (b % 4294967296).toNat := rfl
  exact ans [⟨.convI .i32 (.c (.sym .i64 50)), .sym .i32 0⟩,
    ⟨.convI .i32 (.c (.sym .i64 53)), .sym .i32 1⟩,
    ⟨.bin .lss (.c (.sym .i64 50)) (.c (.sym .i64 53)), .bool false⟩]
    (⟨(Eq.trans (b := some (.int .i32 (IntKind.i32.wrap (a : Int)))) (by kernel_rfl) (f_int (p := (IntKind.i32.wrap (a : Int))) (q := (a : Int)) (by simp only [IntKind.wrap_i64, IntKind.wrap_i32, IntKind.wrap_u64, IntKind.wrap_u32, Int.tdiv_one, Int.tmod_one] <;> omega))), ⟨(Eq.trans (b := some (.int .i32 (IntKind.i32.wrap (b : Int)))) (by kernel_rfl) (f_int (p := (IntKind.i32.wrap (b : Int))) (q := (b : Int)) (by simp only [IntKind.wrap_i64, IntKind.wrap_i32, IntKind.wrap_u64, IntKind.wrap_u32, Int.tdiv_one, Int.tmod_one] <;> omega))), ⟨(Eq.trans (b := some (.bool (decide ((a : Int) < (b : Int))))) (by kernel_rfl) (f_bool (q := false) (decide_eq_false (by omega)))), trivial⟩⟩⟩)
    []
    trivial (by kernel_rfl) (by kernel_rfl) (by kernel_rfl)
def o319 : Ob := (170, [.int .i64 26, .sym .i64 50, .sym .i64 53], .ret (.int .i64 0))
theorem q319 (a b : Int) (H : Hy a b) (hc : b < a) : Ans (i0 a b) (s0 a b) o319 := by
  have H0 := H
  have hc0 := hc
  obtain ⟨h1, h2, h3, h4⟩ := H
  have ea := q0_lt a
  have fa : qn a 0 = (a % 4294967296).toNat := rfl
  have eb := q0_lt b
  have fb : qn b 0 = (b % 4294967296).toNat := rfl
  exact ans [⟨.convI .i32 (.c (.sym .i64 50)), .sym .i32 0⟩,
    ⟨.convI .i32 (.c (.sym .i64 53)), .sym .i32 1⟩,
    ⟨.bin .lss (.c (.sym .i64 50)) (.c (.sym .i64 53)), .bool false⟩]
    (⟨(Eq.trans (b := some (.int .i32 (IntKind.i32.wrap (a : Int)))) (by kernel_rfl) (f_int (p := (IntKind.i32.wrap (a : Int))) (q := (a : Int)) (by simp only [IntKind.wrap_i64, IntKind.wrap_i32, IntKind.wrap_u64, IntKind.wrap_u32, Int.tdiv_one, Int.tmod_one] <;> omega))), ⟨(Eq.trans (b := some (.int .i32 (IntKind.i32.wrap (b : Int)))) (by kernel_rfl) (f_int (p := (IntKind.i32.wrap (b : Int))) (q := (b : Int)) (by simp only [IntKind.wrap_i64, IntKind.wrap_i32, IntKind.wrap_u64, IntKind.wrap_u32, Int.tdiv_one, Int.tmod_one] <;> omega))), ⟨(Eq.trans (b := some (.bool (decide ((a : Int) < (b : Int))))) (by kernel_rfl) (f_bool (q := false) (decide_eq_false (by omega)))), trivial⟩⟩⟩)
    []
    trivial (by kernel_rfl) (by kernel_rfl) (by kernel_rfl)
def o320 : Ob := (170, [.int .i64 26, .sym .i64 50, .sym .i64 53], .ret (.sym .i64 59))
theorem q320 (a b : Int) (H : Hy a b) : Ans (i0 a b) (s0 a b) o320 := by
  show Ans (i0 a b) (s0 a b) (170, [.int .i64 26, .sym .i64 50, .sym .i64 53], .ret (.sym .i64 59))
  rcases Int.lt_trichotomy a b with h | h | h
  · exact (q317 a b H h).den (congrArg (Vl.int .i64) ((by (first | rfl | omega | (simp only [tr] <;> split <;> omega) | (simp only [tr] <;> omega)) : (1 : Int) = ((tr (a < b)) : Int))))
  · exact (q318 a b H h).den (congrArg (Vl.int .i64) ((by (first | rfl | omega | (simp only [tr] <;> split <;> omega) | (simp only [tr] <;> omega)) : (0 : Int) = ((tr (a < b)) : Int))))
  · exact (q319 a b H h).den (congrArg (Vl.int .i64) ((by (first | rfl | omega | (simp only [tr] <;> split <;> omega) | (simp only [tr] <;> omega)) : (0 : Int) = ((tr (a < b)) : Int))))
def o321 : Ob := (5, [.symS 41, .nils], .ret (.tup [.agg [.str [77], .bool false, .nils, .nils, .sl [] [.agg [.int .i64 0, .int .i64 0, .int .i64 0, .int .i64 0, .nils, .int .i64 0, .int .i64 0], .agg [.int .i64 1, .int .i64 0, .int .i64 0, .int .i64 0, .nils, .int .i64 4, .int .i64 0], .agg [.int .i64 2, .int .i64 0, .int .i64 0, .int .i64 0, .nils, .int .i64 1, .int .i64 0], .agg [.int .i64 3, .int .i64 0, .int .i64 0, .int .i64 0, .nils, .int .i64 1, .int .i64 0], .agg [.int .i64 4, .int .i64 0, .int .i64 0, .int .i64 0, .nils, .int .i64 1, .int .i64 0], .agg [.int .i64 5, .int .i64 0, .int .i64 0, .int .i64 0, .nils, .int .i64 4, .int .i64 0], .agg [.int .i64 6, .int .i64 0, .int .i64 0, .int .i64 0, .nils, .int .i64 4, .int .i64 0], .agg [.int .i64 7, .int .i64 0, .int .i64 0, .int .i64 0, .nils, .int .i64 0, .int .i64 0]], .nils, .sl [] [.agg [.str [99], .int .i64 2, .sym .i64 59, .str [], .bool false]], .nils, .nils, .nils], .int .i64 0, .int .i64 0]))
theorem q321 (a b : Int) (H : Hy a b) : Ans (i0 a b) (s0 a b) o321 := by
  have H0 := H
  exact ans []
    (trivial)
    [o316,
    o54,
    o57,
    o320]
    ⟨q316 a b H0, ⟨q54 a b H0, ⟨q57 a b H0, ⟨q320 a b H0, trivial⟩⟩⟩⟩ (by kernel_rfl) (by kernel_rfl) (by kernel_rfl)
def o322 : Ob := (69, [.symS 42, .str [32, 9, 10, 13]], .ret (.symS 42))
theorem q322 (a b : Int) (H : Hy a b) : Ans (i0 a b) (s0 a b) o322 := by
  have H0 := H
  exact ans [⟨.bin .eql (.c (.symS 42)) (.c (.str [])), .bool false⟩,
    ⟨.len true (.c (.symS 42)), .int .i64 52⟩,
    ⟨.idxStr (.c (.symS 42)) (.c (.int .i64 0)), .int .u8 77⟩]
    (⟨by kernel_rfl, ⟨by kernel_rfl, ⟨by kernel_rfl, trivial⟩⟩⟩)
    []
    trivial (by kernel_rfl) (by kernel_rfl) (by kernel_rfl)
def o323 : Ob := (70, [.symS 42, .str [40, 42]], .ret (.bool false))
theorem q323 (a b : Int) (H : Hy a b) : Ans (i0 a b) (s0 a b) o323 := by
  have H0 := H
  exact ans [⟨.len true (.c (.symS 42)), .int .i64 52⟩,
    ⟨.slcStr (.c (.symS 42)) none (some (.c (.int .i64 2))), .str [77, 79]⟩]
    (⟨by kernel_rfl, ⟨by kernel_rfl, trivial⟩⟩)
    []
    trivial (by kernel_rfl) (by kernel_rfl) (by kernel_rfl)
def o324 : Ob := (129, [.symS 42], .ret (.str [77, 79, 68, 85, 76, 69]))
theorem q324 (a b : Int) (H : Hy a b) : Ans (i0 a b) (s0 a b) o324 := by
  show Ans (i0 a b) (s0 a b) (129, [.symS 42], .ret (.str [77, 79, 68, 85, 76, 69]))
  letI := bare (i0 a b) (s0 a b)
  exact word_ob [77, 79, 68, 85, 76, 69] [32, 77, 59, 32, 67, 79, 78, 83, 84, 32, 99, 32, 61, 32, 48, (dg a 7), (dg a 6), (dg a 5), (dg a 4), (dg a 3), (dg a 2), (dg a 1), (dg a 0), 72, 32, 60, 61, 32, 48, (dg b 7), (dg b 6), (dg b 5), (dg b 4), (dg b 3), (dg b 2), (dg b 1), (dg b 0), 72, 59, 32, 69, 78, 68, 32, 77, 46] (by kernel_rfl) (by kernel_rfl) rfl (al_all (by kernel_rfl)) (nal_ok (by kernel_rfl))
def o325 : Ob := (73, [.symS 42], .ret (.tup [.agg [.int .i64 2, .str [77, 79, 68, 85, 76, 69], .int .i64 0, .int .i64 0], .int .i64 6, .int .i64 0]))
theorem q325 (a b : Int) (H : Hy a b) : Ans (i0 a b) (s0 a b) o325 := by
  have H0 := H
  exact ans [⟨.idxStr (.c (.symS 42)) (.c (.int .i64 0)), .int .u8 77⟩]
    (⟨by kernel_rfl, trivial⟩)
    [o324]
    ⟨q324 a b H0, trivial⟩ (by kernel_rfl) (by kernel_rfl) (by kernel_rfl)
def o326 : Ob := (69, [.symS 127, .str [32, 9, 10, 13]], .ret (.symS 128))
theorem q326 (a b : Int) (H : Hy a b) : Ans (i0 a b) (s0 a b) o326 := by
  have H0 := H
  exact ans [⟨.bin .eql (.c (.symS 127)) (.c (.str [])), .bool false⟩,
    ⟨.len true (.c (.symS 127)), .int .i64 46⟩,
    ⟨.idxStr (.c (.symS 127)) (.c (.int .i64 0)), .int .u8 32⟩,
    ⟨.slcStr (.c (.symS 127)) (some (.c (.int .i64 1))) none, .symS 128⟩,
    ⟨.len true (.c (.symS 128)), .int .i64 45⟩,
    ⟨.idxStr (.c (.symS 128)) (.c (.int .i64 0)), .int .u8 77⟩]
    (⟨by kernel_rfl, ⟨by kernel_rfl, ⟨by kernel_rfl, ⟨by kernel_rfl, ⟨by kernel_rfl, ⟨by kernel_rfl, trivial⟩⟩⟩⟩⟩⟩)
    []
    trivial (by kernel_rfl) (by kernel_rfl) (by kernel_rfl)
def o327 : Ob := (70, [.symS 128, .str [40, 42]], .ret (.bool false))
theorem q327 (a b : Int) (H : Hy a b) : Ans (i0 a b) (s0 a b) o327 := by
  have H0 := H
  exact ans [⟨.len true (.c (.symS 128)), .int .i64 45⟩,
    ⟨.slcStr (.c (.symS 128)) none (some (.c (.int .i64 2))), .str [77, 59]⟩]
    (⟨by kernel_rfl, ⟨by kernel_rfl, trivial⟩⟩)
    []
    trivial (by kernel_rfl) (by kernel_rfl) (by kernel_rfl)
def o328 : Ob := (129, [.symS 128], .ret (.str [77]))
theorem q328 (a b : Int) (H : Hy a b) : Ans (i0 a b) (s0 a b) o328 := by
  show Ans (i0 a b) (s0 a b) (129, [.symS 128], .ret (.str [77]))
  letI := bare (i0 a b) (s0 a b)
  exact word_ob [77] [59, 32, 67, 79, 78, 83, 84, 32, 99, 32, 61, 32, 48, (dg a 7), (dg a 6), (dg a 5), (dg a 4), (dg a 3), (dg a 2), (dg a 1), (dg a 0), 72, 32, 60, 61, 32, 48, (dg b 7), (dg b 6), (dg b 5), (dg b 4), (dg b 3), (dg b 2), (dg b 1), (dg b 0), 72, 59, 32, 69, 78, 68, 32, 77, 46] (by kernel_rfl) (by kernel_rfl) rfl (al_all (by kernel_rfl)) (nal_ok (by kernel_rfl))
def o329 : Ob := (73, [.symS 128], .ret (.tup [.agg [.int .i64 1, .str [77], .int .i64 0, .int .i64 0], .int .i64 1, .int .i64 0]))
theorem q329 (a b : Int) (H : Hy a b) : Ans (i0 a b) (s0 a b) o329 := by
  have H0 := H
  exact ans [⟨.idxStr (.c (.symS 128)) (.c (.int .i64 0)), .int .u8 77⟩]
    (⟨by kernel_rfl, trivial⟩)
    [o328]
    ⟨q328 a b H0, trivial⟩ (by kernel_rfl) (by kernel_rfl) (by kernel_rfl)
def o330 : Ob := (69, [.symS 129, .str [32, 9, 10, 13]], .ret (.symS 129))
theorem q330 (a b : Int) (H : Hy a b) : Ans (i0 a b) (s0 a b) o330 := by
  have H0 := H
  exact ans [⟨.bin .eql (.c (.symS 129)) (.c (.str [])), .bool false⟩,
    ⟨.len true (.c (.symS 129)), .int .i64 44⟩,
    ⟨.idxStr (.c (.symS 129)) (.c (.int .i64 0)), .int .u8 59⟩]
    (⟨by kernel_rfl, ⟨by kernel_rfl, ⟨by kernel_rfl, trivial⟩⟩⟩)
    []
    trivial (by kernel_rfl) (by kernel_rfl) (by kernel_rfl)
def o331 : Ob := (70, [.symS 129, .str [40, 42]], .ret (.bool false))
theorem q331 (a b : Int) (H : Hy a b) : Ans (i0 a b) (s0 a b) o331 := by
  have H0 := H
  exact ans [⟨.len true (.c (.symS 129)), .int .i64 44⟩,
    ⟨.slcStr (.c (.symS 129)) none (some (.c (.int .i64 2))), .str [59, 32]⟩]
    (⟨by kernel_rfl, ⟨by kernel_rfl, trivial⟩⟩)
    []
    trivial (by kernel_rfl) (by kernel_rfl) (by kernel_rfl)
def o332 : Ob := (129, [.symS 129], .ret (.str []))
theorem q332 (a b : Int) (H : Hy a b) : Ans (i0 a b) (s0 a b) o332 := by
  show Ans (i0 a b) (s0 a b) (129, [.symS 129], .ret (.str []))
  letI := bare (i0 a b) (s0 a b)
  exact word_ob [] [59, 32, 67, 79, 78, 83, 84, 32, 99, 32, 61, 32, 48, (dg a 7), (dg a 6), (dg a 5), (dg a 4), (dg a 3), (dg a 2), (dg a 1), (dg a 0), 72, 32, 60, 61, 32, 48, (dg b 7), (dg b 6), (dg b 5), (dg b 4), (dg b 3), (dg b 2), (dg b 1), (dg b 0), 72, 59, 32, 69, 78, 68, 32, 77, 46] (by kernel_rfl) (by kernel_rfl) rfl (al_all (by kernel_rfl)) (nal_ok (by kernel_rfl))
def o333 : Ob := (73, [.symS 129], .ret (.tup [.agg [.int .i64 6, .str [59], .int .i64 0, .int .i64 0], .int .i64 1, .int .i64 0]))
theorem q333 (a b : Int) (H : Hy a b) : Ans (i0 a b) (s0 a b) o333 := by
  have H0 := H
  exact ans [⟨.idxStr (.c (.symS 129)) (.c (.int .i64 0)), .int .u8 59⟩,
    ⟨.len true (.c (.symS 129)), .int .i64 44⟩,
    ⟨.slcStr (.c (.symS 129)) none (some (.c (.int .i64 2))), .str [59, 32]⟩,
    ⟨.slcStr (.c (.symS 129)) none (some (.c (.int .i64 1))), .str [59]⟩]
    (⟨by kernel_rfl, ⟨by kernel_rfl, ⟨by kernel_rfl, ⟨by kernel_rfl, trivial⟩⟩⟩⟩)
    [o332,
    o14]
    ⟨q332 a b H0, ⟨q14 a b H0, trivial⟩⟩ (by kernel_rfl) (by kernel_rfl) (by kernel_rfl)
def o334 : Ob := (69, [.symS 130, .str [32, 9, 10, 13]], .ret (.symS 131))
theorem q334 (a b : Int) (H : Hy a b) : Ans (i0 a b) (s0 a b) o334 := by
  have H0 := H
  exact ans [⟨.bin .eql (.c (.symS 130)) (.c (.str [])), .bool false⟩,
    ⟨.len true (.c (.symS 130)), .int .i64 43⟩,
    ⟨.idxStr (.c (.symS 130)) (.c (.int .i64 0)), .int .u8 32⟩,
    ⟨.slcStr (.c (.symS 130)) (some (.c (.int .i64 1))) none, .symS 131⟩,
    ⟨.len true (.c (.symS 131)), .int .i64 42⟩,
    ⟨.idxStr (.c (.symS 131)) (.c (.int .i64 0)), .int .u8 67⟩]
    (⟨by kernel_rfl, ⟨by kernel_rfl, ⟨by kernel_rfl, ⟨by kernel_rfl, ⟨by kernel_rfl, ⟨by kernel_rfl, trivial⟩⟩⟩⟩⟩⟩)
    []
    trivial (by kernel_rfl) (by kernel_rfl) (by kernel_rfl)
def o335 : Ob := (70, [.symS 131, .str [40, 42]], .ret (.bool false))
theorem q335 (a b : Int) (H : Hy a b) : Ans (i0 a b) (s0 a b) o335 := by
  have H0 := H
  exact ans [⟨.len true (.c (.symS 131)), .int .i64 42⟩,
    ⟨.slcStr (.c (.symS 131)) none (some (.c (.int .i64 2))), .str [67, 79]⟩]
    (⟨by kernel_rfl, ⟨by kernel_rfl, trivial⟩⟩)
    []
    trivial (by kernel_rfl) (by kernel_rfl) (by kernel_rfl)
def o336 : Ob := (129, [.symS 131], .ret (.str [67, 79, 78, 83, 84]))
theorem q336 (a b : Int) (H : Hy a b) : Ans (i0 a b) (s0 a b) o336 := by
  show Ans (i0 a b) (s0 a b) (129, [.symS 131], .ret (.str [67, 79, 78, 83, 84]))
  letI := bare (i0 a b) (s0 a b)
  exact word_ob [67, 79, 78, 83, 84] [32, 99, 32, 61, 32, 48, (dg a 7), (dg a 6), (dg a 5), (dg a 4), (dg a 3), (dg a 2), (dg a 1), (dg a 0), 72, 32, 60, 61, 32, 48, (dg b 7), (dg b 6), (dg b 5), (dg b 4), (dg b 3), (dg b 2), (dg b 1), (dg b 0), 72, 59, 32, 69, 78, 68, 32, 77, 46] (by kernel_rfl) (by kernel_rfl) rfl (al_all (by kernel_rfl)) (nal_ok (by kernel_rfl))
def o337 : Ob := (73, [.symS 131], .ret (.tup [.agg [.int .i64 2, .str [67, 79, 78, 83, 84], .int .i64 0, .int .i64 0], .int .i64 5, .int .i64 0]))
theorem q337 (a b : Int) (H : Hy a b) : Ans (i0 a b) (s0 a b) o337 := by
  have H0 := H
  exact ans [⟨.idxStr (.c (.symS 131)) (.c (.int .i64 0)), .int .u8 67⟩]
    (⟨by kernel_rfl, trivial⟩)
    [o336]
    ⟨q336 a b H0, trivial⟩ (by kernel_rfl) (by kernel_rfl) (by kernel_rfl)
def o338 : Ob := (69, [.symS 132, .str [32, 9, 10, 13]], .ret (.symS 133))
theorem q338 (a b : Int) (H : Hy a b) : Ans (i0 a b) (s0 a b) o338 := by
  have H0 := H
  exact ans [⟨.bin .eql (.c (.symS 132)) (.c (.str [])), .bool false⟩,
    ⟨.len true (.c (.symS 132)), .int .i64 37⟩,
    ⟨.idxStr (.c (.symS 132)) (.c (.int .i64 0)), .int .u8 32⟩,
    ⟨.slcStr (.c (.symS 132)) (some (.c (.int .i64 1))) none, .symS 133⟩,
    ⟨.len true (.c (.symS 133)), .int .i64 36⟩,
    ⟨.idxStr (.c (.symS 133)) (.c (.int .i64 0)), .int .u8 99⟩]
    (⟨by kernel_rfl, ⟨by kernel_rfl, ⟨by kernel_rfl, ⟨by kernel_rfl, ⟨by kernel_rfl, ⟨by kernel_rfl, trivial⟩⟩⟩⟩⟩⟩)
    []
    trivial (by kernel_rfl) (by kernel_rfl) (by kernel_rfl)
def o339 : Ob := (70, [.symS 133, .str [40, 42]], .ret (.bool false))
theorem q339 (a b : Int) (H : Hy a b) : Ans (i0 a b) (s0 a b) o339 := by
  have H0 := H
  exact ans [⟨.len true (.c (.symS 133)), .int .i64 36⟩,
    ⟨.slcStr (.c (.symS 133)) none (some (.c (.int .i64 2))), .str [99, 32]⟩]
    (⟨by kernel_rfl, ⟨by kernel_rfl, trivial⟩⟩)
    []
    trivial (by kernel_rfl) (by kernel_rfl) (by kernel_rfl)
def o340 : Ob := (129, [.symS 133], .ret (.str [99]))
theorem q340 (a b : Int) (H : Hy a b) : Ans (i0 a b) (s0 a b) o340 := by
  show Ans (i0 a b) (s0 a b) (129, [.symS 133], .ret (.str [99]))
  letI := bare (i0 a b) (s0 a b)
  exact word_ob [99] [32, 61, 32, 48, (dg a 7), (dg a 6), (dg a 5), (dg a 4), (dg a 3), (dg a 2), (dg a 1), (dg a 0), 72, 32, 60, 61, 32, 48, (dg b 7), (dg b 6), (dg b 5), (dg b 4), (dg b 3), (dg b 2), (dg b 1), (dg b 0), 72, 59, 32, 69, 78, 68, 32, 77, 46] (by kernel_rfl) (by kernel_rfl) rfl (al_all (by kernel_rfl)) (nal_ok (by kernel_rfl))
def o341 : Ob := (73, [.symS 133], .ret (.tup [.agg [.int .i64 1, .str [99], .int .i64 0, .int .i64 0], .int .i64 1, .int .i64 0]))
theorem q341 (a b : Int) (H : Hy a b) : Ans (i0 a b) (s0 a b) o341 := by
  have H0 := H
  exact ans [⟨.idxStr (.c (.symS 133)) (.c (.int .i64 0)), .int .u8 99⟩]
    (⟨by kernel_rfl, trivial⟩)
    [o340]
    ⟨q340 a b H0, trivial⟩ (by kernel_rfl) (by kernel_rfl) (by kernel_rfl)
def o342 : Ob := (69, [.symS 134, .str [32, 9, 10, 13]], .ret (.symS 135))
theorem q342 (a b : Int) (H : Hy a b) : Ans (i0 a b) (s0 a b) o342 := by
  have H0 := H
  exact ans [⟨.bin .eql (.c (.symS 134)) (.c (.str [])), .bool false⟩,
    ⟨.len true (.c (.symS 134)), .int .i64 35⟩,
    ⟨.idxStr (.c (.symS 134)) (.c (.int .i64 0)), .int .u8 32⟩,
    ⟨.slcStr (.c (.symS 134)) (some (.c (.int .i64 1))) none, .symS 135⟩,
    ⟨.len true (.c (.symS 135)), .int .i64 34⟩,
    ⟨.idxStr (.c (.symS 135)) (.c (.int .i64 0)), .int .u8 61⟩]
    (⟨by kernel_rfl, ⟨by kernel_rfl, ⟨by kernel_rfl, ⟨by kernel_rfl, ⟨by kernel_rfl, ⟨by kernel_rfl, trivial⟩⟩⟩⟩⟩⟩)
    []
    trivial (by kernel_rfl) (by kernel_rfl) (by kernel_rfl)
def o343 : Ob := (70, [.symS 135, .str [40, 42]], .ret (.bool false))
theorem q343 (a b : Int) (H : Hy a b) : Ans (i0 a b) (s0 a b) o343 := by
  have H0 := H
  exact ans [⟨.len true (.c (.symS 135)), .int .i64 34⟩,
    ⟨.slcStr (.c (.symS 135)) none (some (.c (.int .i64 2))), .str [61, 32]⟩]
    (⟨by kernel_rfl, ⟨by kernel_rfl, trivial⟩⟩)
    []
    trivial (by kernel_rfl) (by kernel_rfl) (by kernel_rfl)
def o344 : Ob := (129, [.symS 135], .ret (.str []))
theorem q344 (a b : Int) (H : Hy a b) : Ans (i0 a b) (s0 a b) o344 := by
  show Ans (i0 a b) (s0 a b) (129, [.symS 135], .ret (.str []))
  letI := bare (i0 a b) (s0 a b)
  exact word_ob [] [61, 32, 48, (dg a 7), (dg a 6), (dg a 5), (dg a 4), (dg a 3), (dg a 2), (dg a 1), (dg a 0), 72, 32, 60, 61, 32, 48, (dg b 7), (dg b 6), (dg b 5), (dg b 4), (dg b 3), (dg b 2), (dg b 1), (dg b 0), 72, 59, 32, 69, 78, 68, 32, 77, 46] (by kernel_rfl) (by kernel_rfl) rfl (al_all (by kernel_rfl)) (nal_ok (by kernel_rfl))
def o345 : Ob := (73, [.symS 135], .ret (.tup [.agg [.int .i64 6, .str [61], .int .i64 0, .int .i64 0], .int .i64 1, .int .i64 0]))
theorem q345 (a b : Int) (H : Hy a b) : Ans (i0 a b) (s0 a b) o345 := by
  have H0 := H
  exact ans [⟨.idxStr (.c (.symS 135)) (.c (.int .i64 0)), .int .u8 61⟩,
    ⟨.len true (.c (.symS 135)), .int .i64 34⟩,
    ⟨.slcStr (.c (.symS 135)) none (some (.c (.int .i64 2))), .str [61, 32]⟩,
    ⟨.slcStr (.c (.symS 135)) none (some (.c (.int .i64 1))), .str [61]⟩]
    (⟨by kernel_rfl, ⟨by kernel_rfl, ⟨by kernel_rfl, ⟨by kernel_rfl, trivial⟩⟩⟩⟩)
    [o344,
    o27]
    ⟨q344 a b H0, ⟨q27 a b H0, trivial⟩⟩ (by kernel_rfl) (by kernel_rfl) (by kernel_rfl)
def o346 : Ob := (69, [.symS 136, .str [32, 9, 10, 13]], .ret (.symS 137))
theorem q346 (a b : Int) (H : Hy a b) : Ans (i0 a b) (s0 a b) o346 := by
  have H0 := H
  exact ans [⟨.bin .eql (.c (.symS 136)) (.c (.str [])), .bool false⟩,
    ⟨.len true (.c (.symS 136)), .int .i64 33⟩,
    ⟨.idxStr (.c (.symS 136)) (.c (.int .i64 0)), .int .u8 32⟩,
    ⟨.slcStr (.c (.symS 136)) (some (.c (.int .i64 1))) none, .symS 137⟩,
    ⟨.len true (.c (.symS 137)), .int .i64 32⟩,
    ⟨.idxStr (.c (.symS 137)) (.c (.int .i64 0)), .int .u8 48⟩]
    (⟨by kernel_rfl, ⟨by kernel_rfl, ⟨by kernel_rfl, ⟨by kernel_rfl, ⟨by kernel_rfl, ⟨by kernel_rfl, trivial⟩⟩⟩⟩⟩⟩)
    []
    trivial (by kernel_rfl) (by kernel_rfl) (by kernel_rfl)
def o347 : Ob := (70, [.symS 137, .str [40, 42]], .ret (.bool false))
theorem q347 (a b : Int) (H : Hy a b) : Ans (i0 a b) (s0 a b) o347 := by
  have H0 := H
  exact ans [⟨.len true (.c (.symS 137)), .int .i64 32⟩,
    ⟨.slcStr (.c (.symS 137)) none (some (.c (.int .i64 2))), .symS 56⟩,
    ⟨.bin .eql (.c (.symS 56)) (.c (.str [40, 42])), .bool false⟩]
    (⟨by kernel_rfl, ⟨by kernel_rfl, ⟨by kernel_rfl, trivial⟩⟩⟩)
    []
    trivial (by kernel_rfl) (by kernel_rfl) (by kernel_rfl)
def o348 : Ob := (129, [.symS 137], .ret (.symS 0))
theorem q348 (a b : Int) (H : Hy a b) : Ans (i0 a b) (s0 a b) o348 := by
  show Ans (i0 a b) (s0 a b) (129, [.symS 137], .ret (.symS 0))
  letI := bare (i0 a b) (s0 a b)
  exact word_ob (dgs a ++ [72]) [32, 60, 61, 32, 48, (dg b 7), (dg b 6), (dg b 5), (dg b 4), (dg b 3), (dg b 2), (dg b 1), (dg b 0), 72, 59, 32, 69, 78, 68, 32, 77, 46] (by kernel_rfl) (by kernel_rfl) rfl (dgs_alnum a) (nal_ok (by kernel_rfl))
def o349 : Ob := (73, [.symS 137], .ret (.tup [.agg [.int .i64 3, .str [], .sym .i64 50, .int .i64 0], .int .i64 10, .int .i64 0]))
theorem q349 (a b : Int) (H : Hy a b) : Ans (i0 a b) (s0 a b) o349 := by
  have H0 := H
  exact ans [⟨.idxStr (.c (.symS 137)) (.c (.int .i64 0)), .int .u8 48⟩,
    ⟨.len true (.c (.symS 0)), .int .i64 10⟩]
    (⟨by kernel_rfl, ⟨by kernel_rfl, trivial⟩⟩)
    [o348,
    o35]
    ⟨q348 a b H0, ⟨q35 a b H0, trivial⟩⟩ (by kernel_rfl) (by kernel_rfl) (by kernel_rfl)
def o350 : Ob := (69, [.symS 138, .str [32, 9, 10, 13]], .ret (.symS 139))
theorem q350 (a b : Int) (H : Hy a b) : Ans (i0 a b) (s0 a b) o350 := by
  have H0 := H
  exact ans [⟨.bin .eql (.c (.symS 138)) (.c (.str [])), .bool false⟩,
    ⟨.len true (.c (.symS 138)), .int .i64 22⟩,
    ⟨.idxStr (.c (.symS 138)) (.c (.int .i64 0)), .int .u8 32⟩,
    ⟨.slcStr (.c (.symS 138)) (some (.c (.int .i64 1))) none, .symS 139⟩,
    ⟨.len true (.c (.symS 139)), .int .i64 21⟩,
    ⟨.idxStr (.c (.symS 139)) (.c (.int .i64 0)), .int .u8 60⟩]
    (⟨by kernel_rfl, ⟨by kernel_rfl, ⟨by kernel_rfl, ⟨by kernel_rfl, ⟨by kernel_rfl, ⟨by kernel_rfl, trivial⟩⟩⟩⟩⟩⟩)
    []
    trivial (by kernel_rfl) (by kernel_rfl) (by kernel_rfl)
def o351 : Ob := (70, [.symS 139, .str [40, 42]], .ret (.bool false))
theorem q351 (a b : Int) (H : Hy a b) : Ans (i0 a b) (s0 a b) o351 := by
  have H0 := H
  exact ans [⟨.len true (.c (.symS 139)), .int .i64 21⟩,
    ⟨.slcStr (.c (.symS 139)) none (some (.c (.int .i64 2))), .str [60, 61]⟩]
    (⟨by kernel_rfl, ⟨by kernel_rfl, trivial⟩⟩)
    []
    trivial (by kernel_rfl) (by kernel_rfl) (by kernel_rfl)
def o352 : Ob := (129, [.symS 139], .ret (.str []))
theorem q352 (a b : Int) (H : Hy a b) : Ans (i0 a b) (s0 a b) o352 := by
  show Ans (i0 a b) (s0 a b) (129, [.symS 139], .ret (.str []))
  letI := bare (i0 a b) (s0 a b)
  exact word_ob [] [60, 61, 32, 48, (dg b 7), (dg b 6), (dg b 5), (dg b 4), (dg b 3), (dg b 2), (dg b 1), (dg b 0), 72, 59, 32, 69, 78, 68, 32, 77, 46] (by kernel_rfl) (by kernel_rfl) rfl (al_all (by kernel_rfl)) (nal_ok (by kernel_rfl))
def o353 : Ob := (73, [.symS 139], .ret (.tup [.agg [.int .i64 6, .str [60, 61], .int .i64 0, .int .i64 0], .int .i64 2, .int .i64 0]))
theorem q353 (a b : Int) (H : Hy a b) : Ans (i0 a b) (s0 a b) o353 := by
  have H0 := H
  exact ans [⟨.idxStr (.c (.symS 139)) (.c (.int .i64 0)), .int .u8 60⟩,
    ⟨.len true (.c (.symS 139)), .int .i64 21⟩,
    ⟨.slcStr (.c (.symS 139)) none (some (.c (.int .i64 2))), .str [60, 61]⟩]
    (⟨by kernel_rfl, ⟨by kernel_rfl, ⟨by kernel_rfl, trivial⟩⟩⟩)
    [o352]
    ⟨q352 a b H0, trivial⟩ (by kernel_rfl) (by kernel_rfl) (by kernel_rfl)
def o354 : Ob := (22, [.symS 42], .ret (.tup [.sl [] [.agg [.int .i64 2, .str [77, 79, 68, 85, 76, 69], .int .i64 0, .int .i64 0], .agg [.int .i64 1, .str [77], .int .i64 0, .int .i64 7], .agg [.int .i64 6, .str [59], .int .i64 0, .int .i64 8], .agg [.int .i64 2, .str [67, 79, 78, 83, 84], .int .i64 0, .int .i64 10], .agg [.int .i64 1, .str [99], .int .i64 0, .int .i64 16], .agg [.int .i64 6, .str [61], .int .i64 0, .int .i64 18], .agg [.int .i64 3, .str [], .sym .i64 50, .int .i64 20], .agg [.int .i64 6, .str [60, 61], .int .i64 0, .int .i64 31], .agg [.int .i64 3, .str [], .sym .i64 53, .int .i64 34], .agg [.int .i64 6, .str [59], .int .i64 0, .int .i64 44], .agg [.int .i64 2, .str [69, 78, 68], .int .i64 0, .int .i64 46], .agg [.int .i64 1, .str [77], .int .i64 0, .int .i64 50], .agg [.int .i64 6, .str [46], .int .i64 0, .int .i64 51], .agg [.int .i64 0, .str [], .int .i64 0, .int .i64 52]], .int .i64 0, .int .i64 0]))
theorem q354 (a b : Int) (H : Hy a b) : Ans (i0 a b) (s0 a b) o354 := by
  have H0 := H
  exact ans [⟨.len true (.c (.symS 42)), .int .i64 52⟩,
    ⟨.slcStr (.c (.symS 42)) (some (.c (.int .i64 0))) none, .symS 42⟩,
    ⟨.bin .eql (.c (.symS 42)) (.c (.str [])), .bool false⟩,
    ⟨.slcStr (.c (.symS 42)) (some (.c (.int .i64 6))) none, .symS 127⟩,
    ⟨.len true (.c (.symS 128)), .int .i64 45⟩,
    ⟨.bin .eql (.c (.symS 128)) (.c (.str [])), .bool false⟩,
    ⟨.slcStr (.c (.symS 42)) (some (.c (.int .i64 8))) none, .symS 129⟩,
    ⟨.len true (.c (.symS 129)), .int .i64 44⟩,
    ⟨.bin .eql (.c (.symS 129)) (.c (.str [])), .bool false⟩,
    ⟨.slcStr (.c (.symS 42)) (some (.c (.int .i64 9))) none, .symS 130⟩,
    ⟨.len true (.c (.symS 131)), .int .i64 42⟩,
    ⟨.bin .eql (.c (.symS 131)) (.c (.str [])), .bool false⟩,
    ⟨.slcStr (.c (.symS 42)) (some (.c (.int .i64 15))) none, .symS 132⟩,
    ⟨.len true (.c (.symS 133)), .int .i64 36⟩,
    ⟨.bin .eql (.c (.symS 133)) (.c (.str [])), .bool false⟩,
    ⟨.slcStr (.c (.symS 42)) (some (.c (.int .i64 17))) none, .symS 134⟩,
    ⟨.len true (.c (.symS 135)), .int .i64 34⟩,
    ⟨.bin .eql (.c (.symS 135)) (.c (.str [])), .bool false⟩,
    ⟨.slcStr (.c (.symS 42)) (some (.c (.int .i64 19))) none, .symS 136⟩,
    ⟨.len true (.c (.symS 137)), .int .i64 32⟩,
    ⟨.bin .eql (.c (.symS 137)) (.c (.str [])), .bool false⟩,
    ⟨.slcStr (.c (.symS 42)) (some (.c (.int .i64 30))) none, .symS 138⟩,
    ⟨.len true (.c (.symS 139)), .int .i64 21⟩,
    ⟨.bin .eql (.c (.symS 139)) (.c (.str [])), .bool false⟩,
    ⟨.slcStr (.c (.symS 42)) (some (.c (.int .i64 33))) none, .symS 59⟩,
    ⟨.len true (.c (.symS 60)), .int .i64 18⟩,
    ⟨.bin .eql (.c (.symS 60)) (.c (.str [])), .bool false⟩,
    ⟨.slcStr (.c (.symS 42)) (some (.c (.int .i64 44))) none, .str [59, 32, 69, 78, 68, 32, 77, 46]⟩,
    ⟨.slcStr (.c (.symS 42)) (some (.c (.int .i64 45))) none, .str [32, 69, 78, 68, 32, 77, 46]⟩,
    ⟨.slcStr (.c (.symS 42)) (some (.c (.int .i64 49))) none, .str [32, 77, 46]⟩,
    ⟨.slcStr (.c (.symS 42)) (some (.c (.int .i64 51))) none, .str [46]⟩,
    ⟨.slcStr (.c (.symS 42)) (some (.c (.int .i64 52))) none, .str []⟩]
    (⟨by kernel_rfl, ⟨by kernel_rfl, ⟨by kernel_rfl, ⟨by kernel_rfl, ⟨by kernel_rfl, ⟨by kernel_rfl, ⟨by kernel_rfl, ⟨by kernel_rfl, ⟨by kernel_rfl, ⟨by kernel_rfl, ⟨by kernel_rfl, ⟨by kernel_rfl, ⟨by kernel_rfl, ⟨by kernel_rfl, ⟨by kernel_rfl, ⟨by kernel_rfl, ⟨by kernel_rfl, ⟨by kernel_rfl, ⟨by kernel_rfl, ⟨by kernel_rfl, ⟨by kernel_rfl, ⟨by kernel_rfl, ⟨by kernel_rfl, ⟨by kernel_rfl, ⟨by kernel_rfl, ⟨by kernel_rfl, ⟨by kernel_rfl, ⟨by kernel_rfl, ⟨by kernel_rfl, ⟨by kernel_rfl, ⟨by kernel_rfl, ⟨by kernel_rfl, trivial⟩⟩⟩⟩⟩⟩⟩⟩⟩⟩⟩⟩⟩⟩⟩⟩⟩⟩⟩⟩⟩⟩⟩⟩⟩⟩⟩⟩⟩⟩⟩⟩)
    [o322,
    o323,
    o325,
    o326,
    o327,
    o329,
    o330,
    o331,
    o333,
    o334,
    o335,
    o337,
    o338,
    o339,
    o341,
    o342,
    o343,
    o345,
    o346,
    o347,
    o349,
    o350,
    o351,
    o353,
    o42,
    o43,
    o49,
    o14,
    o50]
    ⟨q322 a b H0, ⟨q323 a b H0, ⟨q325 a b H0, ⟨q326 a b H0, ⟨q327 a b H0, ⟨q329 a b H0, ⟨q330 a b H0, ⟨q331 a b H0, ⟨q333 a b H0, ⟨q334 a b H0, ⟨q335 a b H0, ⟨q337 a b H0, ⟨q338 a b H0, ⟨q339 a b H0, ⟨q341 a b H0, ⟨q342 a b H0, ⟨q343 a b H0, ⟨q345 a b H0, ⟨q346 a b H0, ⟨q347 a b H0, ⟨q349 a b H0, ⟨q350 a b H0, ⟨q351 a b H0, ⟨q353 a b H0, ⟨q42 a b H0, ⟨q43 a b H0, ⟨q49 a b H0, ⟨q14 a b H0, ⟨q50 a b H0, trivial⟩⟩⟩⟩⟩⟩⟩⟩⟩⟩⟩⟩⟩⟩⟩⟩⟩⟩⟩⟩⟩⟩⟩⟩⟩⟩⟩⟩⟩ (by kernel_rfl) (by kernel_rfl) (by kernel_rfl)
end Go.Proofs.Tryz.Vc
