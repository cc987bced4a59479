/- Answers of calls. -/
import Derived.Test.YtokbomdlodainaaGreatDoorVcQ1
set_option linter.all false
namespace Go.Proofs.Tryz.Vc
open Go Go.Proofs Go.Ve
set_option maxRecDepth 100000
set_option maxHeartbeats 4000000
def o162 : Ob := (73, [.symS 176], .ret (.tup [.agg [.int .i64 3, .str [], .sym .i64 50, .int .i64 0], .int .i64 10, .int .i64 0]))
theorem q162 (a b : Int) (H : Hy a b) : Ans (i0 a b) (s0 a b) o162 := by
  have H0 := H
  exact ans [⟨.idxStr (.c (.symS 176)) (.c (.int .i64 0)), .int .u8 48⟩,
    ⟨.len true (.c (.symS 0)), .int .i64 10⟩]
    (⟨by kernel_rfl, ⟨by kernel_rfl, trivial⟩⟩)
    [o161,
    o35]
    ⟨q161 a b H0, ⟨q35 a b H0, trivial⟩⟩ (by kernel_rfl) (by kernel_rfl) (by kernel_rfl)
def o163 : Ob := (69, [.symS 177, .str [32, 9, 10, 13]], .ret (.symS 178))
theorem q163 (a b : Int) (H : Hy a b) : Ans (i0 a b) (s0 a b) o163 := by
  have H0 := H
  exact ans [⟨.bin .eql (.c (.symS 177)) (.c (.str [])), .bool false⟩,
    ⟨.len true (.c (.symS 177)), .int .i64 23⟩,
    ⟨.idxStr (.c (.symS 177)) (.c (.int .i64 0)), .int .u8 32⟩,
    ⟨.slcStr (.c (.symS 177)) (some (.c (.int .i64 1))) none, .symS 178⟩,
    ⟨.len true (.c (.symS 178)), .int .i64 22⟩,
    ⟨.idxStr (.c (.symS 178)) (.c (.int .i64 0)), .int .u8 68⟩]
    (⟨by kernel_rfl, ⟨by kernel_rfl, ⟨by kernel_rfl, ⟨by kernel_rfl, ⟨by kernel_rfl, ⟨by kernel_rfl, trivial⟩⟩⟩⟩⟩⟩)
    []
    trivial (by kernel_rfl) (by kernel_rfl) (by kernel_rfl)
def o164 : Ob := (70, [.symS 178, .str [40, 42]], .ret (.bool false))
theorem q164 (a b : Int) (H : Hy a b) : Ans (i0 a b) (s0 a b) o164 := by
  have H0 := H
  exact ans [⟨.len true (.c (.symS 178)), .int .i64 22⟩,
    ⟨.slcStr (.c (.symS 178)) none (some (.c (.int .i64 2))), .str [68, 73]⟩]
    (⟨by kernel_rfl, ⟨by kernel_rfl, trivial⟩⟩)
    []
    trivial (by kernel_rfl) (by kernel_rfl) (by kernel_rfl)
def o165 : Ob := (129, [.symS 178], .ret (.str [68, 73, 86]))
theorem q165 (a b : Int) (H : Hy a b) : Ans (i0 a b) (s0 a b) o165 := by
  show Ans (i0 a b) (s0 a b) (129, [.symS 178], .ret (.str [68, 73, 86]))
  letI := bare (i0 a b) (s0 a b)
  exact word_ob [68, 73, 86] [32, 48, (dg b 7), (dg b 6), (dg b 5), (dg b 4), (dg b 3), (dg b 2), (dg b 1), (dg b 0), 72, 59, 32, 69, 78, 68, 32, 77, 46] (by kernel_rfl) (by kernel_rfl) rfl (al_all (by kernel_rfl)) (nal_ok (by kernel_rfl))
def o166 : Ob := (73, [.symS 178], .ret (.tup [.agg [.int .i64 2, .str [68, 73, 86], .int .i64 0, .int .i64 0], .int .i64 3, .int .i64 0]))
theorem q166 (a b : Int) (H : Hy a b) : Ans (i0 a b) (s0 a b) o166 := by
  have H0 := H
  exact ans [⟨.idxStr (.c (.symS 178)) (.c (.int .i64 0)), .int .u8 68⟩]
    (⟨by kernel_rfl, trivial⟩)
    [o165]
    ⟨q165 a b H0, trivial⟩ (by kernel_rfl) (by kernel_rfl) (by kernel_rfl)
def o167 : Ob := (22, [.symS 37], .ret (.tup [.sl [] [.agg [.int .i64 2, .str [77, 79, 68, 85, 76, 69], .int .i64 0, .int .i64 0], .agg [.int .i64 1, .str [77], .int .i64 0, .int .i64 7], .agg [.int .i64 6, .str [59], .int .i64 0, .int .i64 8], .agg [.int .i64 2, .str [67, 79, 78, 83, 84], .int .i64 0, .int .i64 10], .agg [.int .i64 1, .str [99], .int .i64 0, .int .i64 16], .agg [.int .i64 6, .str [61], .int .i64 0, .int .i64 18], .agg [.int .i64 3, .str [], .sym .i64 50, .int .i64 20], .agg [.int .i64 2, .str [68, 73, 86], .int .i64 0, .int .i64 31], .agg [.int .i64 3, .str [], .sym .i64 53, .int .i64 35], .agg [.int .i64 6, .str [59], .int .i64 0, .int .i64 45], .agg [.int .i64 2, .str [69, 78, 68], .int .i64 0, .int .i64 47], .agg [.int .i64 1, .str [77], .int .i64 0, .int .i64 51], .agg [.int .i64 6, .str [46], .int .i64 0, .int .i64 52], .agg [.int .i64 0, .str [], .int .i64 0, .int .i64 53]], .int .i64 0, .int .i64 0]))
theorem q167 (a b : Int) (H : Hy a b) : Ans (i0 a b) (s0 a b) o167 := by
  have H0 := H
  exact ans [⟨.len true (.c (.symS 37)), .int .i64 53⟩,
    ⟨.slcStr (.c (.symS 37)) (some (.c (.int .i64 0))) none, .symS 37⟩,
    ⟨.bin .eql (.c (.symS 37)) (.c (.str [])), .bool false⟩,
    ⟨.slcStr (.c (.symS 37)) (some (.c (.int .i64 6))) none, .symS 166⟩,
    ⟨.len true (.c (.symS 167)), .int .i64 46⟩,
    ⟨.bin .eql (.c (.symS 167)) (.c (.str [])), .bool false⟩,
    ⟨.slcStr (.c (.symS 37)) (some (.c (.int .i64 8))) none, .symS 168⟩,
    ⟨.len true (.c (.symS 168)), .int .i64 45⟩,
    ⟨.bin .eql (.c (.symS 168)) (.c (.str [])), .bool false⟩,
    ⟨.slcStr (.c (.symS 37)) (some (.c (.int .i64 9))) none, .symS 169⟩,
    ⟨.len true (.c (.symS 170)), .int .i64 43⟩,
    ⟨.bin .eql (.c (.symS 170)) (.c (.str [])), .bool false⟩,
    ⟨.slcStr (.c (.symS 37)) (some (.c (.int .i64 15))) none, .symS 171⟩,
    ⟨.len true (.c (.symS 172)), .int .i64 37⟩,
    ⟨.bin .eql (.c (.symS 172)) (.c (.str [])), .bool false⟩,
    ⟨.slcStr (.c (.symS 37)) (some (.c (.int .i64 17))) none, .symS 173⟩,
    ⟨.len true (.c (.symS 174)), .int .i64 35⟩,
    ⟨.bin .eql (.c (.symS 174)) (.c (.str [])), .bool false⟩,
    ⟨.slcStr (.c (.symS 37)) (some (.c (.int .i64 19))) none, .symS 175⟩,
    ⟨.len true (.c (.symS 176)), .int .i64 33⟩,
    ⟨.bin .eql (.c (.symS 176)) (.c (.str [])), .bool false⟩,
    ⟨.slcStr (.c (.symS 37)) (some (.c (.int .i64 30))) none, .symS 177⟩,
    ⟨.len true (.c (.symS 178)), .int .i64 22⟩,
    ⟨.bin .eql (.c (.symS 178)) (.c (.str [])), .bool false⟩,
    ⟨.slcStr (.c (.symS 37)) (some (.c (.int .i64 34))) none, .symS 59⟩,
    ⟨.len true (.c (.symS 60)), .int .i64 18⟩,
    ⟨.bin .eql (.c (.symS 60)) (.c (.str [])), .bool false⟩,
    ⟨.slcStr (.c (.symS 37)) (some (.c (.int .i64 45))) none, .str [59, 32, 69, 78, 68, 32, 77, 46]⟩,
    ⟨.slcStr (.c (.symS 37)) (some (.c (.int .i64 46))) none, .str [32, 69, 78, 68, 32, 77, 46]⟩,
    ⟨.slcStr (.c (.symS 37)) (some (.c (.int .i64 50))) none, .str [32, 77, 46]⟩,
    ⟨.slcStr (.c (.symS 37)) (some (.c (.int .i64 52))) none, .str [46]⟩,
    ⟨.slcStr (.c (.symS 37)) (some (.c (.int .i64 53))) none, .str []⟩]
    (⟨by kernel_rfl, ⟨by kernel_rfl, ⟨by kernel_rfl, ⟨by kernel_rfl, ⟨by kernel_rfl, ⟨by kernel_rfl, ⟨by kernel_rfl, ⟨by kernel_rfl, ⟨by kernel_rfl, ⟨by kernel_rfl, ⟨by kernel_rfl, ⟨by kernel_rfl, ⟨by kernel_rfl, ⟨by kernel_rfl, ⟨by kernel_rfl, ⟨by kernel_rfl, ⟨by kernel_rfl, ⟨by kernel_rfl, ⟨by kernel_rfl, ⟨by kernel_rfl, ⟨by kernel_rfl, ⟨by kernel_rfl, ⟨by kernel_rfl, ⟨by kernel_rfl, ⟨by kernel_rfl, ⟨by kernel_rfl, ⟨by kernel_rfl, ⟨by kernel_rfl, ⟨by kernel_rfl, ⟨by kernel_rfl, ⟨by kernel_rfl, ⟨by kernel_rfl, trivial⟩⟩⟩⟩⟩⟩⟩⟩⟩⟩⟩⟩⟩⟩⟩⟩⟩⟩⟩⟩⟩⟩⟩⟩⟩⟩⟩⟩⟩⟩⟩⟩)
    [o135,
    o136,
    o138,
    o139,
    o140,
    o142,
    o143,
    o144,
    o146,
    o147,
    o148,
    o150,
    o151,
    o152,
    o154,
    o155,
    o156,
    o158,
    o159,
    o160,
    o162,
    o163,
    o164,
    o166,
    o42,
    o43,
    o49,
    o14,
    o50]
    ⟨q135 a b H0, ⟨q136 a b H0, ⟨q138 a b H0, ⟨q139 a b H0, ⟨q140 a b H0, ⟨q142 a b H0, ⟨q143 a b H0, ⟨q144 a b H0, ⟨q146 a b H0, ⟨q147 a b H0, ⟨q148 a b H0, ⟨q150 a b H0, ⟨q151 a b H0, ⟨q152 a b H0, ⟨q154 a b H0, ⟨q155 a b H0, ⟨q156 a b H0, ⟨q158 a b H0, ⟨q159 a b H0, ⟨q160 a b H0, ⟨q162 a b H0, ⟨q163 a b H0, ⟨q164 a b H0, ⟨q166 a b H0, ⟨q42 a b H0, ⟨q43 a b H0, ⟨q49 a b H0, ⟨q14 a b H0, ⟨q50 a b H0, trivial⟩⟩⟩⟩⟩⟩⟩⟩⟩⟩⟩⟩⟩⟩⟩⟩⟩⟩⟩⟩⟩⟩⟩⟩⟩⟩⟩⟩⟩ (by kernel_rfl) (by kernel_rfl) (by kernel_rfl)
def o168 : Ob := (88, [.agg [.int .i64 24, .str [], .sym .i64 53, .bool false, .nils, .int .i64 35], .bool false], .ret (.bool true))
theorem q168 (a b : Int) (H : Hy a b) (hc : b = 0) : Ans (i0 a b) (s0 a b) o168 := by
  have H0 := H
  have hc0 := hc
  obtain ⟨h1, h2, h3, h4⟩ := H
  have ea := q0_lt a
  have fa : qn a 0 = (a % 4294967296).toNat := rfl
  have eb := q0_lt b
  have fb : qn b 0 = (b % 4294967296).toNat := rfl
  exact ans [⟨.bin .eql (.c (.sym .i64 53)) (.c (.int .i64 0)), .bool true⟩,
    ⟨.convI .i32 (.c (.sym .i64 53)), .int .i32 0⟩]
    (⟨(Eq.trans (b := some (.bool (((b : Int) == (0 : Int))))) (by kernel_rfl) (f_bool (q := true) (beq_iff_eq.2 (by omega)))), ⟨(Eq.trans (b := some (.int .i32 (IntKind.i32.wrap (b : Int)))) (by kernel_rfl) (f_int (p := (IntKind.i32.wrap (b : Int))) (q := (0 : Int)) (by simp only [IntKind.wrap_i64, IntKind.wrap_i32, IntKind.wrap_u64, IntKind.wrap_u32, Int.tdiv_one, Int.tmod_one] <;> omega))), trivial⟩⟩)
    []
    trivial (by kernel_rfl) (by kernel_rfl) (by kernel_rfl)
def o169 : Ob := (88, [.agg [.int .i64 24, .str [], .sym .i64 53, .bool false, .nils, .int .i64 35], .bool false], .ret (.bool true))
theorem q169 (a b : Int) (H : Hy a b) (hc : b ≠ 0) : Ans (i0 a b) (s0 a b) o169 := by
  have H0 := H
  have hc0 := hc
  obtain ⟨h1, h2, h3, h4⟩ := H
  have ea := q0_lt a
  have fa : qn a 0 = (a % 4294967296).toNat := rfl
  have eb := q0_lt b
  have fb : qn b 0 = (b % 4294967296).toNat := rfl
  exact ans [⟨.bin .eql (.c (.sym .i64 53)) (.c (.int .i64 0)), .bool false⟩,
    ⟨.convI .i32 (.c (.sym .i64 53)), .sym .i32 1⟩,
    ⟨.convI .i64 (.c (.sym .i32 1)), .sym .i64 53⟩,
    ⟨.bin .eql (.c (.sym .i64 53)) (.c (.sym .i64 53)), .bool true⟩]
    (⟨(Eq.trans (b := some (.bool (((b : Int) == (0 : Int))))) (by kernel_rfl) (f_bool (q := false) (beq_eq_false_iff_ne.2 (by omega)))), ⟨(Eq.trans (b := some (.int .i32 (IntKind.i32.wrap (b : Int)))) (by kernel_rfl) (f_int (p := (IntKind.i32.wrap (b : Int))) (q := (b : Int)) (by simp only [IntKind.wrap_i64, IntKind.wrap_i32, IntKind.wrap_u64, IntKind.wrap_u32, Int.tdiv_one, Int.tmod_one] <;> omega))), ⟨(Eq.trans (b := some (.int .i64 (IntKind.i64.wrap (b : Int)))) (by kernel_rfl) (f_int (p := (IntKind.i64.wrap (b : Int))) (q := (b : Int)) (by simp only [IntKind.wrap_i64, IntKind.wrap_i32, IntKind.wrap_u64, IntKind.wrap_u32, Int.tdiv_one, Int.tmod_one] <;> omega))), ⟨(Eq.trans (b := some (.bool (((b : Int) == (b : Int))))) (by kernel_rfl) (f_bool (q := true) (beq_iff_eq.2 (by omega)))), trivial⟩⟩⟩⟩)
    []
    trivial (by kernel_rfl) (by kernel_rfl) (by kernel_rfl)
def o170 : Ob := (88, [.agg [.int .i64 24, .str [], .sym .i64 53, .bool false, .nils, .int .i64 35], .bool false], .ret (.bool true))
theorem q170 (a b : Int) (H : Hy a b) : Ans (i0 a b) (s0 a b) o170 := by
  by_cases h : b = 0
  · exact q168 a b H h
  · exact q169 a b H h
def o171 : Ob := (5, [.symS 37, .nils], .ret (.tup [.agg [.str [], .bool false, .nils, .nils, .nils, .nils, .nils, .nils, .nils, .nils], .int .i64 31, .int .i64 124]))
theorem q171 (a b : Int) (H : Hy a b) (hc : b ≤ 0) : Ans (i0 a b) (s0 a b) o171 := by
  have H0 := H
  have hc0 := hc
  obtain ⟨h1, h2, h3, h4⟩ := H
  have ea := q0_lt a
  have fa : qn a 0 = (a % 4294967296).toNat := rfl
  have eb := q0_lt b
  have fb : qn b 0 = (b % 4294967296).toNat := rfl
  exact ans [⟨.bin .gtr (.c (.sym .i64 53)) (.c (.int .i64 0)), .bool false⟩]
    (⟨(Eq.trans (b := some (.bool (decide ((b : Int) > (0 : Int))))) (by kernel_rfl) (f_bool (q := false) (decide_eq_false (by omega)))), trivial⟩)
    [o167,
    o54,
    o170]
    ⟨q167 a b H0, ⟨q54 a b H0, ⟨q170 a b H0, trivial⟩⟩⟩ (by kernel_rfl) (by kernel_rfl) (by kernel_rfl)
def o172 : Ob := (69, [.symS 38, .str [32, 9, 10, 13]], .ret (.symS 38))
theorem q172 (a b : Int) (H : Hy a b) : Ans (i0 a b) (s0 a b) o172 := by
  have H0 := H
  exact ans [⟨.bin .eql (.c (.symS 38)) (.c (.str [])), .bool false⟩,
    ⟨.len true (.c (.symS 38)), .int .i64 53⟩,
    ⟨.idxStr (.c (.symS 38)) (.c (.int .i64 0)), .int .u8 77⟩]
    (⟨by kernel_rfl, ⟨by kernel_rfl, ⟨by kernel_rfl, trivial⟩⟩⟩)
    []
    trivial (by kernel_rfl) (by kernel_rfl) (by kernel_rfl)
def o173 : Ob := (70, [.symS 38, .str [40, 42]], .ret (.bool false))
theorem q173 (a b : Int) (H : Hy a b) : Ans (i0 a b) (s0 a b) o173 := by
  have H0 := H
  exact ans [⟨.len true (.c (.symS 38)), .int .i64 53⟩,
    ⟨.slcStr (.c (.symS 38)) none (some (.c (.int .i64 2))), .str [77, 79]⟩]
    (⟨by kernel_rfl, ⟨by kernel_rfl, trivial⟩⟩)
    []
    trivial (by kernel_rfl) (by kernel_rfl) (by kernel_rfl)
def o174 : Ob := (129, [.symS 38], .ret (.str [77, 79, 68, 85, 76, 69]))
theorem q174 (a b : Int) (H : Hy a b) : Ans (i0 a b) (s0 a b) o174 := by
  show Ans (i0 a b) (s0 a b) (129, [.symS 38], .ret (.str [77, 79, 68, 85, 76, 69]))
  letI := bare (i0 a b) (s0 a b)
  exact word_ob [77, 79, 68, 85, 76, 69] [32, 77, 59, 32, 67, 79, 78, 83, 84, 32, 99, 32, 61, 32, 48, (dg a 7), (dg a 6), (dg a 5), (dg a 4), (dg a 3), (dg a 2), (dg a 1), (dg a 0), 72, 32, 77, 79, 68, 32, 48, (dg b 7), (dg b 6), (dg b 5), (dg b 4), (dg b 3), (dg b 2), (dg b 1), (dg b 0), 72, 59, 32, 69, 78, 68, 32, 77, 46] (by kernel_rfl) (by kernel_rfl) rfl (al_all (by kernel_rfl)) (nal_ok (by kernel_rfl))
def o175 : Ob := (73, [.symS 38], .ret (.tup [.agg [.int .i64 2, .str [77, 79, 68, 85, 76, 69], .int .i64 0, .int .i64 0], .int .i64 6, .int .i64 0]))
theorem q175 (a b : Int) (H : Hy a b) : Ans (i0 a b) (s0 a b) o175 := by
  have H0 := H
  exact ans [⟨.idxStr (.c (.symS 38)) (.c (.int .i64 0)), .int .u8 77⟩]
    (⟨by kernel_rfl, trivial⟩)
    [o174]
    ⟨q174 a b H0, trivial⟩ (by kernel_rfl) (by kernel_rfl) (by kernel_rfl)
def o176 : Ob := (69, [.symS 179, .str [32, 9, 10, 13]], .ret (.symS 180))
theorem q176 (a b : Int) (H : Hy a b) : Ans (i0 a b) (s0 a b) o176 := by
  have H0 := H
  exact ans [⟨.bin .eql (.c (.symS 179)) (.c (.str [])), .bool false⟩,
    ⟨.len true (.c (.symS 179)), .int .i64 47⟩,
    ⟨.idxStr (.c (.symS 179)) (.c (.int .i64 0)), .int .u8 32⟩,
    ⟨.slcStr (.c (.symS 179)) (some (.c (.int .i64 1))) none, .symS 180⟩,
    ⟨.len true (.c (.symS 180)), .int .i64 46⟩,
    ⟨.idxStr (.c (.symS 180)) (.c (.int .i64 0)), .int .u8 77⟩]
    (⟨by kernel_rfl, ⟨by kernel_rfl, ⟨by kernel_rfl, ⟨by kernel_rfl, ⟨by kernel_rfl, ⟨by kernel_rfl, trivial⟩⟩⟩⟩⟩⟩)
    []
    trivial (by kernel_rfl) (by kernel_rfl) (by kernel_rfl)
def o177 : Ob := (70, [.symS 180, .str [40, 42]], .ret (.bool false))
theorem q177 (a b : Int) (H : Hy a b) : Ans (i0 a b) (s0 a b) o177 := by
  have H0 := H
  exact ans [⟨.len true (.c (.symS 180)), .int .i64 46⟩,
    ⟨.slcStr (.c (.symS 180)) none (some (.c (.int .i64 2))), .str [77, 59]⟩]
    (⟨by kernel_rfl, ⟨by kernel_rfl, trivial⟩⟩)
    []
    trivial (by kernel_rfl) (by kernel_rfl) (by kernel_rfl)
def o178 : Ob := (129, [.symS 180], .ret (.str [77]))
theorem q178 (a b : Int) (H : Hy a b) : Ans (i0 a b) (s0 a b) o178 := by
  show Ans (i0 a b) (s0 a b) (129, [.symS 180], .ret (.str [77]))
  letI := bare (i0 a b) (s0 a b)
  exact word_ob [77] [59, 32, 67, 79, 78, 83, 84, 32, 99, 32, 61, 32, 48, (dg a 7), (dg a 6), (dg a 5), (dg a 4), (dg a 3), (dg a 2), (dg a 1), (dg a 0), 72, 32, 77, 79, 68, 32, 48, (dg b 7), (dg b 6), (dg b 5), (dg b 4), (dg b 3), (dg b 2), (dg b 1), (dg b 0), 72, 59, 32, 69, 78, 68, 32, 77, 46] (by kernel_rfl) (by kernel_rfl) rfl (al_all (by kernel_rfl)) (nal_ok (by kernel_rfl))
def o179 : Ob := (73, [.symS 180], .ret (.tup [.agg [.int .i64 1, .str [77], .int .i64 0, .int .i64 0], .int .i64 1, .int .i64 0]))
theorem q179 (a b : Int) (H : Hy a b) : Ans (i0 a b) (s0 a b) o179 := by
  have H0 := H
  exact ans [⟨.idxStr (.c (.symS 180)) (.c (.int .i64 0)), .int .u8 77⟩]
    (⟨by kernel_rfl, trivial⟩)
    [o178]
    ⟨q178 a b H0, trivial⟩ (by kernel_rfl) (by kernel_rfl) (by kernel_rfl)
def o180 : Ob := (69, [.symS 181, .str [32, 9, 10, 13]], .ret (.symS 181))
theorem q180 (a b : Int) (H : Hy a b) : Ans (i0 a b) (s0 a b) o180 := by
  have H0 := H
  exact ans [⟨.bin .eql (.c (.symS 181)) (.c (.str [])), .bool false⟩,
    ⟨.len true (.c (.symS 181)), .int .i64 45⟩,
    ⟨.idxStr (.c (.symS 181)) (.c (.int .i64 0)), .int .u8 59⟩]
    (⟨by kernel_rfl, ⟨by kernel_rfl, ⟨by kernel_rfl, trivial⟩⟩⟩)
    []
    trivial (by kernel_rfl) (by kernel_rfl) (by kernel_rfl)
def o181 : Ob := (70, [.symS 181, .str [40, 42]], .ret (.bool false))
theorem q181 (a b : Int) (H : Hy a b) : Ans (i0 a b) (s0 a b) o181 := by
  have H0 := H
  exact ans [⟨.len true (.c (.symS 181)), .int .i64 45⟩,
    ⟨.slcStr (.c (.symS 181)) none (some (.c (.int .i64 2))), .str [59, 32]⟩]
    (⟨by kernel_rfl, ⟨by kernel_rfl, trivial⟩⟩)
    []
    trivial (by kernel_rfl) (by kernel_rfl) (by kernel_rfl)
def o182 : Ob := (129, [.symS 181], .ret (.str []))
theorem q182 (a b : Int) (H : Hy a b) : Ans (i0 a b) (s0 a b) o182 := by
  show Ans (i0 a b) (s0 a b) (129, [.symS 181], .ret (.str []))
  letI := bare (i0 a b) (s0 a b)
  exact word_ob [] [59, 32, 67, 79, 78, 83, 84, 32, 99, 32, 61, 32, 48, (dg a 7), (dg a 6), (dg a 5), (dg a 4), (dg a 3), (dg a 2), (dg a 1), (dg a 0), 72, 32, 77, 79, 68, 32, 48, (dg b 7), (dg b 6), (dg b 5), (dg b 4), (dg b 3), (dg b 2), (dg b 1), (dg b 0), 72, 59, 32, 69, 78, 68, 32, 77, 46] (by kernel_rfl) (by kernel_rfl) rfl (al_all (by kernel_rfl)) (nal_ok (by kernel_rfl))
def o183 : Ob := (73, [.symS 181], .ret (.tup [.agg [.int .i64 6, .str [59], .int .i64 0, .int .i64 0], .int .i64 1, .int .i64 0]))
theorem q183 (a b : Int) (H : Hy a b) : Ans (i0 a b) (s0 a b) o183 := by
  have H0 := H
  exact ans [⟨.idxStr (.c (.symS 181)) (.c (.int .i64 0)), .int .u8 59⟩,
    ⟨.len true (.c (.symS 181)), .int .i64 45⟩,
    ⟨.slcStr (.c (.symS 181)) none (some (.c (.int .i64 2))), .str [59, 32]⟩,
    ⟨.slcStr (.c (.symS 181)) none (some (.c (.int .i64 1))), .str [59]⟩]
    (⟨by kernel_rfl, ⟨by kernel_rfl, ⟨by kernel_rfl, ⟨by kernel_rfl, trivial⟩⟩⟩⟩)
    [o182,
    o14]
    ⟨q182 a b H0, ⟨q14 a b H0, trivial⟩⟩ (by kernel_rfl) (by kernel_rfl) (by kernel_rfl)
def o184 : Ob := (69, [.symS 182, .str [32, 9, 10, 13]], .ret (.symS 183))
theorem q184 (a b : Int) (H : Hy a b) : Ans (i0 a b) (s0 a b) o184 := by
  have H0 := H
  exact ans [⟨.bin .eql (.c (.symS 182)) (.c (.str [])), .bool false⟩,
    ⟨.len true (.c (.symS 182)), .int .i64 44⟩,
    ⟨.idxStr (.c (.symS 182)) (.c (.int .i64 0)), .int .u8 32⟩,
    ⟨.slcStr (.c (.symS 182)) (some (.c (.int .i64 1))) none, .symS 183⟩,
    ⟨.len true (.c (.symS 183)), .int .i64 43⟩,
    ⟨.idxStr (.c (.symS 183)) (.c (.int .i64 0)), .int .u8 67⟩]
    (⟨by kernel_rfl, ⟨by kernel_rfl, ⟨by kernel_rfl, ⟨by kernel_rfl, ⟨by kernel_rfl, ⟨by kernel_rfl, trivial⟩⟩⟩⟩⟩⟩)
    []
    trivial (by kernel_rfl) (by kernel_rfl) (by kernel_rfl)
def o185 : Ob := (70, [.symS 183, .str [40, 42]], .ret (.bool false))
theorem q185 (a b : Int) (H : Hy a b) : Ans (i0 a b) (s0 a b) o185 := by
  have H0 := H
  exact ans [⟨.len true (.c (.symS 183)), .int .i64 43⟩,
    ⟨.slcStr (.c (.symS 183)) none (some (.c (.int .i64 2))), .str [67, 79]⟩]
    (⟨by kernel_rfl, ⟨by kernel_rfl, trivial⟩⟩)
    []
    trivial (by kernel_rfl) (by kernel_rfl) (by kernel_rfl)
def o186 : Ob := (129, [.symS 183], .ret (.str [67, 79, 78, 83, 84]))
theorem q186 (a b : Int) (H : Hy a b) : Ans (i0 a b) (s0 a b) o186 := by
  show Ans (i0 a b) (s0 a b) (129, [.symS 183], .ret (.str [67, 79, 78, 83, 84]))
  letI := bare (i0 a b) (s0 a b)
  exact word_ob [67, 79, 78, 83, 84] [32, 99, 32, 61, 32, 48, (dg a 7), (dg a 6), (dg a 5), (dg a 4), (dg a 3), (dg a 2), (dg a 1), (dg a 0), 72, 32, 77, 79, 68, 32, 48, (dg b 7), (dg b 6), (dg b 5), (dg b 4), (dg b 3), (dg b 2), (dg b 1), (dg b 0), 72, 59, 32, 69, 78, 68, 32, 77, 46] (by kernel_rfl) (by kernel_rfl) rfl (al_all (by kernel_rfl)) (nal_ok (by kernel_rfl))
def o187 : Ob := (73, [.symS 183], .ret (.tup [.agg [.int .i64 2, .str [67, 79, 78, 83, 84], .int .i64 0, .int .i64 0], .int .i64 5, .int .i64 0]))
theorem q187 (a b : Int) (H : Hy a b) : Ans (i0 a b) (s0 a b) o187 := by
  have H0 := H
  exact ans [⟨.idxStr (.c (.symS 183)) (.c (.int .i64 0)), .int .u8 67⟩]
    (⟨by kernel_rfl, trivial⟩)
    [o186]
    ⟨q186 a b H0, trivial⟩ (by kernel_rfl) (by kernel_rfl) (by kernel_rfl)
def o188 : Ob := (69, [.symS 184, .str [32, 9, 10, 13]], .ret (.symS 185))
theorem q188 (a b : Int) (H : Hy a b) : Ans (i0 a b) (s0 a b) o188 := by
  have H0 := H
  exact ans [⟨.bin .eql (.c (.symS 184)) (.c (.str [])), .bool false⟩,
    ⟨.len true (.c (.symS 184)), .int .i64 38⟩,
    ⟨.idxStr (.c (.symS 184)) (.c (.int .i64 0)), .int .u8 32⟩,
    ⟨.slcStr (.c (.symS 184)) (some (.c (.int .i64 1))) none, .symS 185⟩,
    ⟨.len true (.c (.symS 185)), .int .i64 37⟩,
    ⟨.idxStr (.c (.symS 185)) (.c (.int .i64 0)), .int .u8 99⟩]
    (⟨by kernel_rfl, ⟨by kernel_rfl, ⟨by kernel_rfl, ⟨by kernel_rfl, ⟨by kernel_rfl, ⟨by kernel_rfl, trivial⟩⟩⟩⟩⟩⟩)
    []
    trivial (by kernel_rfl) (by kernel_rfl) (by kernel_rfl)
def o189 : Ob := (70, [.symS 185, .str [40, 42]], .ret (.bool false))
theorem q189 (a b : Int) (H : Hy a b) : Ans (i0 a b) (s0 a b) o189 := by
  have H0 := H
  exact ans [⟨.len true (.c (.symS 185)), .int .i64 37⟩,
    ⟨.slcStr (.c (.symS 185)) none (some (.c (.int .i64 2))), .str [99, 32]⟩]
    (⟨by kernel_rfl, ⟨by kernel_rfl, trivial⟩⟩)
    []
    trivial (by kernel_rfl) (by kernel_rfl) (by kernel_rfl)
def o190 : Ob := (129, [.symS 185], .ret (.str [99]))
theorem q190 (a b : Int) (H : Hy a b) : Ans (i0 a b) (s0 a b) o190 := by
  show Ans (i0 a b) (s0 a b) (129, [.symS 185], .ret (.str [99]))
  letI := bare (i0 a b) (s0 a b)
  exact word_ob [99] [32, 61, 32, 48, (dg a 7), (dg a 6), (dg a 5), (dg a 4), (dg a 3), (dg a 2), (dg a 1), (dg a 0), 72, 32, 77, 79, 68, 32, 48, (dg b 7), (dg b 6), (dg b 5), (dg b 4), (dg b 3), (dg b 2), (dg b 1), (dg b 0), 72, 59, 32, 69, 78, 68, 32, 77, 46] (by kernel_rfl) (by kernel_rfl) rfl (al_all (by kernel_rfl)) (nal_ok (by kernel_rfl))
def o191 : Ob := (73, [.symS 185], .ret (.tup [.agg [.int .i64 1, .str [99], .int .i64 0, .int .i64 0], .int .i64 1, .int .i64 0]))
theorem q191 (a b : Int) (H : Hy a b) : Ans (i0 a b) (s0 a b) o191 := by
  have H0 := H
  exact ans [⟨.idxStr (.c (.symS 185)) (.c (.int .i64 0)), .int .u8 99⟩]
    (⟨by kernel_rfl, trivial⟩)
    [o190]
    ⟨q190 a b H0, trivial⟩ (by kernel_rfl) (by kernel_rfl) (by kernel_rfl)
def o192 : Ob := (69, [.symS 186, .str [32, 9, 10, 13]], .ret (.symS 187))
theorem q192 (a b : Int) (H : Hy a b) : Ans (i0 a b) (s0 a b) o192 := by
  have H0 := H
  exact ans [⟨.bin .eql (.c (.symS 186)) (.c (.str [])), .bool false⟩,
    ⟨.len true (.c (.symS 186)), .int .i64 36⟩,
    ⟨.idxStr (.c (.symS 186)) (.c (.int .i64 0)), .int .u8 32⟩,
    ⟨.slcStr (.c (.symS 186)) (some (.c (.int .i64 1))) none, .symS 187⟩,
    ⟨.len true (.c (.symS 187)), .int .i64 35⟩,
    ⟨.idxStr (.c (.symS 187)) (.c (.int .i64 0)), .int .u8 61⟩]
    (⟨by kernel_rfl, ⟨by kernel_rfl, ⟨by kernel_rfl, ⟨by kernel_rfl, ⟨by kernel_rfl, ⟨by kernel_rfl, trivial⟩⟩⟩⟩⟩⟩)
    []
    trivial (by kernel_rfl) (by kernel_rfl) (by kernel_rfl)
def o193 : Ob := (70, [.symS 187, .str [40, 42]], .ret (.bool false))
theorem q193 (a b : Int) (H : Hy a b) : Ans (i0 a b) (s0 a b) o193 := by
  have H0 := H
  exact ans [⟨.len true (.c (.symS 187)), .int .i64 35⟩,
    ⟨.slcStr (.c (.symS 187)) none (some (.c (.int .i64 2))), .str [61, 32]⟩]
    (⟨by kernel_rfl, ⟨by kernel_rfl, trivial⟩⟩)
    []
    trivial (by kernel_rfl) (by kernel_rfl) (by kernel_rfl)
def o194 : Ob := (129, [.symS 187], .ret (.str []))
theorem q194 (a b : Int) (H : Hy a b) : Ans (i0 a b) (s0 a b) o194 := by
  show Ans (i0 a b) (s0 a b) (129, [.symS 187], .ret (.str []))
  letI := bare (i0 a b) (s0 a b)
  exact word_ob [] [61, 32, 48, (dg a 7), (dg a 6), (dg a 5), (dg a 4), (dg a 3), (dg a 2), (dg a 1), (dg a 0), 72, 32, 77, 79, 68, 32, 48, (dg b 7), (dg b 6), (dg b 5), (dg b 4), (dg b 3), (dg b 2), (dg b 1), (dg b 0), 72, 59, 32, 69, 78, 68, 32, 77, 46] (by kernel_rfl) (by kernel_rfl) rfl (al_all (by kernel_rfl)) (nal_ok (by kernel_rfl))
def o195 : Ob := (73, [.symS 187], .ret (.tup [.agg [.int .i64 6, .str [61], .int .i64 0, .int .i64 0], .int .i64 1, .int .i64 0]))
theorem q195 (a b : Int) (H : Hy a b) : Ans (i0 a b) (s0 a b) o195 := by
  have H0 := H
  exact ans [⟨.idxStr (.c (.symS 187)) (.c (.int .i64 0)), .int .u8 61⟩,
    ⟨.len true (.c (.symS 187)), .int .i64 35⟩,
    ⟨.slcStr (.c (.symS 187)) none (some (.c (.int .i64 2))), .str [61, 32]⟩,
    ⟨.slcStr (.c (.symS 187)) none (some (.c (.int .i64 1))), .str [61]⟩]
    (⟨by kernel_rfl, ⟨by kernel_rfl, ⟨by kernel_rfl, ⟨by kernel_rfl, trivial⟩⟩⟩⟩)
    [o194,
    o27]
    ⟨q194 a b H0, ⟨q27 a b H0, trivial⟩⟩ (by kernel_rfl) (by kernel_rfl) (by kernel_rfl)
def o196 : Ob := (69, [.symS 188, .str [32, 9, 10, 13]], .ret (.symS 189))
theorem q196 (a b : Int) (H : Hy a b) : Ans (i0 a b) (s0 a b) o196 := by
  have H0 := H
  exact ans [⟨.bin .eql (.c (.symS 188)) (.c (.str [])), .bool false⟩,
    ⟨.len true (.c (.symS 188)), .int .i64 34⟩,
    ⟨.idxStr (.c (.symS 188)) (.c (.int .i64 0)), .int .u8 32⟩,
    ⟨.slcStr (.c (.symS 188)) (some (.c (.int .i64 1))) none, .symS 189⟩,
    ⟨.len true (.c (.symS 189)), .int .i64 33⟩,
    ⟨.idxStr (.c (.symS 189)) (.c (.int .i64 0)), .int .u8 48⟩]
    (⟨by kernel_rfl, ⟨by kernel_rfl, ⟨by kernel_rfl, ⟨by kernel_rfl, ⟨by kernel_rfl, ⟨by kernel_rfl, trivial⟩⟩⟩⟩⟩⟩)
    []
    trivial (by kernel_rfl) (by kernel_rfl) (by kernel_rfl)
def o197 : Ob := (70, [.symS 189, .str [40, 42]], .ret (.bool false))
theorem q197 (a b : Int) (H : Hy a b) : Ans (i0 a b) (s0 a b) o197 := by
  have H0 := H
  exact ans [⟨.len true (.c (.symS 189)), .int .i64 33⟩,
    ⟨.slcStr (.c (.symS 189)) none (some (.c (.int .i64 2))), .symS 56⟩,
    ⟨.bin .eql (.c (.symS 56)) (.c (.str [40, 42])), .bool false⟩]
    (⟨by kernel_rfl, ⟨by kernel_rfl, ⟨by kernel_rfl, trivial⟩⟩⟩)
    []
    trivial (by kernel_rfl) (by kernel_rfl) (by kernel_rfl)
def o198 : Ob := (129, [.symS 189], .ret (.symS 0))
theorem q198 (a b : Int) (H : Hy a b) : Ans (i0 a b) (s0 a b) o198 := by
  show Ans (i0 a b) (s0 a b) (129, [.symS 189], .ret (.symS 0))
  letI := bare (i0 a b) (s0 a b)
  exact word_ob (dgs a ++ [72]) [32, 77, 79, 68, 32, 48, (dg b 7), (dg b 6), (dg b 5), (dg b 4), (dg b 3), (dg b 2), (dg b 1), (dg b 0), 72, 59, 32, 69, 78, 68, 32, 77, 46] (by kernel_rfl) (by kernel_rfl) rfl (dgs_alnum a) (nal_ok (by kernel_rfl))
def o199 : Ob := (73, [.symS 189], .ret (.tup [.agg [.int .i64 3, .str [], .sym .i64 50, .int .i64 0], .int .i64 10, .int .i64 0]))
theorem q199 (a b : Int) (H : Hy a b) : Ans (i0 a b) (s0 a b) o199 := by
  have H0 := H
  exact ans [⟨.idxStr (.c (.symS 189)) (.c (.int .i64 0)), .int .u8 48⟩,
    ⟨.len true (.c (.symS 0)), .int .i64 10⟩]
    (⟨by kernel_rfl, ⟨by kernel_rfl, trivial⟩⟩)
    [o198,
    o35]
    ⟨q198 a b H0, ⟨q35 a b H0, trivial⟩⟩ (by kernel_rfl) (by kernel_rfl) (by kernel_rfl)
def o200 : Ob := (69, [.symS 190, .str [32, 9, 10, 13]], .ret (.symS 191))
theorem q200 (a b : Int) (H : Hy a b) : Ans (i0 a b) (s0 a b) o200 := by
  have H0 := H
  exact ans [⟨.bin .eql (.c (.symS 190)) (.c (.str [])), .bool false⟩,
    ⟨.len true (.c (.symS 190)), .int .i64 23⟩,
    ⟨.idxStr (.c (.symS 190)) (.c (.int .i64 0)), .int .u8 32⟩,
    ⟨.slcStr (.c (.symS 190)) (some (.c (.int .i64 1))) none, .symS 191⟩,
    ⟨.len true (.c (.symS 191)), .int .i64 22⟩,
    ⟨.idxStr (.c (.symS 191)) (.c (.int .i64 0)), .int .u8 77⟩]
    (⟨by kernel_rfl, ⟨by kernel_rfl, ⟨by kernel_rfl, ⟨by kernel_rfl, ⟨by kernel_rfl, ⟨by kernel_rfl, trivial⟩⟩⟩⟩⟩⟩)
    []
    trivial (by kernel_rfl) (by kernel_rfl) (by kernel_rfl)
def o201 : Ob := (70, [.symS 191, .str [40, 42]], .ret (.bool false))
theorem q201 (a b : Int) (H : Hy a b) : Ans (i0 a b) (s0 a b) o201 := by
  have H0 := H
  exact ans [⟨.len true (.c (.symS 191)), .int .i64 22⟩,
    ⟨.slcStr (.c (.symS 191)) none (some (.c (.int .i64 2))), .str [77, 79]⟩]
    (⟨by kernel_rfl, ⟨by kernel_rfl, trivial⟩⟩)
    []
    trivial (by kernel_rfl) (by kernel_rfl) (by kernel_rfl)
def o202 : Ob := (129, [.symS 191], .ret (.str [77, 79, 68]))
theorem q202 (a b : Int) (H : Hy a b) : Ans (i0 a b) (s0 a b) o202 := by
  show Ans (i0 a b) (s0 a b) (129, [.symS 191], .ret (.str [77, 79, 68]))
  letI := bare (i0 a b) (s0 a b)
  exact word_ob [77, 79, 68] [32, 48, (dg b 7), (dg b 6), (dg b 5), (dg b 4), (dg b 3), (dg b 2), (dg b 1), (dg b 0), 72, 59, 32, 69, 78, 68, 32, 77, 46] (by kernel_rfl) (by kernel_rfl) rfl (al_all (by kernel_rfl)) (nal_ok (by kernel_rfl))
def o203 : Ob := (73, [.symS 191], .ret (.tup [.agg [.int .i64 2, .str [77, 79, 68], .int .i64 0, .int .i64 0], .int .i64 3, .int .i64 0]))
theorem q203 (a b : Int) (H : Hy a b) : Ans (i0 a b) (s0 a b) o203 := by
  have H0 := H
  exact ans [⟨.idxStr (.c (.symS 191)) (.c (.int .i64 0)), .int .u8 77⟩]
    (⟨by kernel_rfl, trivial⟩)
    [o202]
    ⟨q202 a b H0, trivial⟩ (by kernel_rfl) (by kernel_rfl) (by kernel_rfl)
def o204 : Ob := (22, [.symS 38], .ret (.tup [.sl [] [.agg [.int .i64 2, .str [77, 79, 68, 85, 76, 69], .int .i64 0, .int .i64 0], .agg [.int .i64 1, .str [77], .int .i64 0, .int .i64 7], .agg [.int .i64 6, .str [59], .int .i64 0, .int .i64 8], .agg [.int .i64 2, .str [67, 79, 78, 83, 84], .int .i64 0, .int .i64 10], .agg [.int .i64 1, .str [99], .int .i64 0, .int .i64 16], .agg [.int .i64 6, .str [61], .int .i64 0, .int .i64 18], .agg [.int .i64 3, .str [], .sym .i64 50, .int .i64 20], .agg [.int .i64 2, .str [77, 79, 68], .int .i64 0, .int .i64 31], .agg [.int .i64 3, .str [], .sym .i64 53, .int .i64 35], .agg [.int .i64 6, .str [59], .int .i64 0, .int .i64 45], .agg [.int .i64 2, .str [69, 78, 68], .int .i64 0, .int .i64 47], .agg [.int .i64 1, .str [77], .int .i64 0, .int .i64 51], .agg [.int .i64 6, .str [46], .int .i64 0, .int .i64 52], .agg [.int .i64 0, .str [], .int .i64 0, .int .i64 53]], .int .i64 0, .int .i64 0]))
theorem q204 (a b : Int) (H : Hy a b) : Ans (i0 a b) (s0 a b) o204 := by
  have H0 := H
  exact ans [⟨.len true (.c (.symS 38)), .int .i64 53⟩,
    ⟨.slcStr (.c (.symS 38)) (some (.c (.int .i64 0))) none, .symS 38⟩,
    ⟨.bin .eql (.c (.symS 38)) (.c (.str [])), .bool false⟩,
    ⟨.slcStr (.c (.symS 38)) (some (.c (.int .i64 6))) none, .symS 179⟩,
    ⟨.len true (.c (.symS 180)), .int .i64 46⟩,
    ⟨.bin .eql (.c (.symS 180)) (.c (.str [])), .bool false⟩,
    ⟨.slcStr (.c (.symS 38)) (some (.c (.int .i64 8))) none, .symS 181⟩,
    ⟨.len true (.c (.symS 181)), .int .i64 45⟩,
    ⟨.bin .eql (.c (.symS 181)) (.c (.str [])), .bool false⟩,
    ⟨.slcStr (.c (.symS 38)) (some (.c (.int .i64 9))) none, .symS 182⟩,
    ⟨.len true (.c (.symS 183)), .int .i64 43⟩,
    ⟨.bin .eql (.c (.symS 183)) (.c (.str [])), .bool false⟩,
    ⟨.slcStr (.c (.symS 38)) (some (.c (.int .i64 15))) none, .symS 184⟩,
    ⟨.len true (.c (.symS 185)), .int .i64 37⟩,
    ⟨.bin .eql (.c (.symS 185)) (.c (.str [])), .bool false⟩,
    ⟨.slcStr (.c (.symS 38)) (some (.c (.int .i64 17))) none, .symS 186⟩,
    ⟨.len true (.c (.symS 187)), .int .i64 35⟩,
    ⟨.bin .eql (.c (.symS 187)) (.c (.str [])), .bool false⟩,
    ⟨.slcStr (.c (.symS 38)) (some (.c (.int .i64 19))) none, .symS 188⟩,
    ⟨.len true (.c (.symS 189)), .int .i64 33⟩,
    ⟨.bin .eql (.c (.symS 189)) (.c (.str [])), .bool false⟩,
    ⟨.slcStr (.c (.symS 38)) (some (.c (.int .i64 30))) none, .symS 190⟩,
    ⟨.len true (.c (.symS 191)), .int .i64 22⟩,
    ⟨.bin .eql (.c (.symS 191)) (.c (.str [])), .bool false⟩,
    ⟨.slcStr (.c (.symS 38)) (some (.c (.int .i64 34))) none, .symS 59⟩,
    ⟨.len true (.c (.symS 60)), .int .i64 18⟩,
    ⟨.bin .eql (.c (.symS 60)) (.c (.str [])), .bool false⟩,
    ⟨.slcStr (.c (.symS 38)) (some (.c (.int .i64 45))) none, .str [59, 32, 69, 78, 68, 32, 77, 46]⟩,
    ⟨.slcStr (.c (.symS 38)) (some (.c (.int .i64 46))) none, .str [32, 69, 78, 68, 32, 77, 46]⟩,
    ⟨.slcStr (.c (.symS 38)) (some (.c (.int .i64 50))) none, .str [32, 77, 46]⟩,
    ⟨.slcStr (.c (.symS 38)) (some (.c (.int .i64 52))) none, .str [46]⟩,
    ⟨.slcStr (.c (.symS 38)) (some (.c (.int .i64 53))) none, .str []⟩]
    (⟨by kernel_rfl, ⟨by kernel_rfl, ⟨by kernel_rfl, ⟨by kernel_rfl, ⟨by kernel_rfl, ⟨by kernel_rfl, ⟨by kernel_rfl, ⟨by kernel_rfl, ⟨by kernel_rfl, ⟨by kernel_rfl, ⟨by kernel_rfl, ⟨by kernel_rfl, ⟨by kernel_rfl, ⟨by kernel_rfl, ⟨by kernel_rfl, ⟨by kernel_rfl, ⟨by kernel_rfl, ⟨by kernel_rfl, ⟨by kernel_rfl, ⟨by kernel_rfl, ⟨by kernel_rfl, ⟨by kernel_rfl, ⟨by kernel_rfl, ⟨by kernel_rfl, ⟨by kernel_rfl, ⟨by kernel_rfl, ⟨by kernel_rfl, ⟨by kernel_rfl, ⟨by kernel_rfl, ⟨by kernel_rfl, ⟨by kernel_rfl, ⟨by kernel_rfl, trivial⟩⟩⟩⟩⟩⟩⟩⟩⟩⟩⟩⟩⟩⟩⟩⟩⟩⟩⟩⟩⟩⟩⟩⟩⟩⟩⟩⟩⟩⟩⟩⟩)
    [o172,
    o173,
    o175,
    o176,
    o177,
    o179,
    o180,
    o181,
    o183,
    o184,
    o185,
    o187,
    o188,
    o189,
    o191,
    o192,
    o193,
    o195,
    o196,
    o197,
    o199,
    o200,
    o201,
    o203,
    o42,
    o43,
    o49,
    o14,
    o50]
    ⟨q172 a b H0, ⟨q173 a b H0, ⟨q175 a b H0, ⟨q176 a b H0, ⟨q177 a b H0, ⟨q179 a b H0, ⟨q180 a b H0, ⟨q181 a b H0, ⟨q183 a b H0, ⟨q184 a b H0, ⟨q185 a b H0, ⟨q187 a b H0, ⟨q188 a b H0, ⟨q189 a b H0, ⟨q191 a b H0, ⟨q192 a b H0, ⟨q193 a b H0, ⟨q195 a b H0, ⟨q196 a b H0, ⟨q197 a b H0, ⟨q199 a b H0, ⟨q200 a b H0, ⟨q201 a b H0, ⟨q203 a b H0, ⟨q42 a b H0, ⟨q43 a b H0, ⟨q49 a b H0, ⟨q14 a b H0, ⟨q50 a b H0, trivial⟩⟩⟩⟩⟩⟩⟩⟩⟩⟩⟩⟩⟩⟩⟩⟩⟩⟩⟩⟩⟩⟩⟩⟩⟩⟩⟩⟩⟩ (by kernel_rfl) (by kernel_rfl) (by kernel_rfl)
def o205 : Ob := (5, [.symS 38, .nils], .ret (.tup [.agg [.str [], .bool false, .nils, .nils, .nils, .nils, .nils, .nils, .nils, .nils], .int .i64 31, .int .i64 124]))
theorem q205 (a b : Int) (H : Hy a b) (hc : b ≤ 0) : Ans (i0 a b) (s0 a b) o205 := by
  have H0 := H
  have hc0 := hc
  obtain ⟨h1, h2, h3, h4⟩ := H
  have ea := q0_lt a
  have fa : qn a 0 = (a % 4294967296).toNat := rfl
  have eb := q0_lt b
  have fb : qn b 0 = (b % 4294967296).toNat := rfl
  exact ans [⟨.bin .gtr (.c (.sym .i64 53)) (.c (.int .i64 0)), .bool false⟩]
    (⟨(Eq.trans (b := some (.bool (decide ((b : Int) > (0 : Int))))) (by kernel_rfl) (f_bool (q := false) (decide_eq_false (by omega)))), trivial⟩)
    [o204,
    o54,
    o170]
    ⟨q204 a b H0, ⟨q54 a b H0, ⟨q170 a b H0, trivial⟩⟩⟩ (by kernel_rfl) (by kernel_rfl) (by kernel_rfl)
def o206 : Ob := (69, [.symS 39, .str [32, 9, 10, 13]], .ret (.symS 39))
theorem q206 (a b : Int) (H : Hy a b) : Ans (i0 a b) (s0 a b) o206 := by
  have H0 := H
  exact ans [⟨.bin .eql (.c (.symS 39)) (.c (.str [])), .bool false⟩,
    ⟨.len true (.c (.symS 39)), .int .i64 51⟩,
    ⟨.idxStr (.c (.symS 39)) (.c (.int .i64 0)), .int .u8 77⟩]
    (⟨by kernel_rfl, ⟨by kernel_rfl, ⟨by kernel_rfl, trivial⟩⟩⟩)
    []
    trivial (by kernel_rfl) (by kernel_rfl) (by kernel_rfl)
def o207 : Ob := (70, [.symS 39, .str [40, 42]], .ret (.bool false))
theorem q207 (a b : Int) (H : Hy a b) : Ans (i0 a b) (s0 a b) o207 := by
  have H0 := H
  exact ans [⟨.len true (.c (.symS 39)), .int .i64 51⟩,
    ⟨.slcStr (.c (.symS 39)) none (some (.c (.int .i64 2))), .str [77, 79]⟩]
    (⟨by kernel_rfl, ⟨by kernel_rfl, trivial⟩⟩)
    []
    trivial (by kernel_rfl) (by kernel_rfl) (by kernel_rfl)
def o208 : Ob := (129, [.symS 39], .ret (.str [77, 79, 68, 85, 76, 69]))
theorem q208 (a b : Int) (H : Hy a b) : Ans (i0 a b) (s0 a b) o208 := by
  show Ans (i0 a b) (s0 a b) (129, [.symS 39], .ret (.str [77, 79, 68, 85, 76, 69]))
  letI := bare (i0 a b) (s0 a b)
  exact word_ob [77, 79, 68, 85, 76, 69] [32, 77, 59, 32, 67, 79, 78, 83, 84, 32, 99, 32, 61, 32, 48, (dg a 7), (dg a 6), (dg a 5), (dg a 4), (dg a 3), (dg a 2), (dg a 1), (dg a 0), 72, 32, 61, 32, 48, (dg b 7), (dg b 6), (dg b 5), (dg b 4), (dg b 3), (dg b 2), (dg b 1), (dg b 0), 72, 59, 32, 69, 78, 68, 32, 77, 46] (by kernel_rfl) (by kernel_rfl) rfl (al_all (by kernel_rfl)) (nal_ok (by kernel_rfl))
def o209 : Ob := (73, [.symS 39], .ret (.tup [.agg [.int .i64 2, .str [77, 79, 68, 85, 76, 69], .int .i64 0, .int .i64 0], .int .i64 6, .int .i64 0]))
theorem q209 (a b : Int) (H : Hy a b) : Ans (i0 a b) (s0 a b) o209 := by
  have H0 := H
  exact ans [⟨.idxStr (.c (.symS 39)) (.c (.int .i64 0)), .int .u8 77⟩]
    (⟨by kernel_rfl, trivial⟩)
    [o208]
    ⟨q208 a b H0, trivial⟩ (by kernel_rfl) (by kernel_rfl) (by kernel_rfl)
def o210 : Ob := (69, [.symS 88, .str [32, 9, 10, 13]], .ret (.symS 89))
theorem q210 (a b : Int) (H : Hy a b) : Ans (i0 a b) (s0 a b) o210 := by
  have H0 := H
  exact ans [⟨.bin .eql (.c (.symS 88)) (.c (.str [])), .bool false⟩,
    ⟨.len true (.c (.symS 88)), .int .i64 45⟩,
    ⟨.idxStr (.c (.symS 88)) (.c (.int .i64 0)), .int .u8 32⟩,
    ⟨.slcStr (.c (.symS 88)) (some (.c (.int .i64 1))) none, .symS 89⟩,
    ⟨.len true (.c (.symS 89)), .int .i64 44⟩,
    ⟨.idxStr (.c (.symS 89)) (.c (.int .i64 0)), .int .u8 77⟩]
    (⟨by kernel_rfl, ⟨by kernel_rfl, ⟨by kernel_rfl, ⟨by kernel_rfl, ⟨by kernel_rfl, ⟨by kernel_rfl, trivial⟩⟩⟩⟩⟩⟩)
    []
    trivial (by kernel_rfl) (by kernel_rfl) (by kernel_rfl)
def o211 : Ob := (70, [.symS 89, .str [40, 42]], .ret (.bool false))
theorem q211 (a b : Int) (H : Hy a b) : Ans (i0 a b) (s0 a b) o211 := by
  have H0 := H
  exact ans [⟨.len true (.c (.symS 89)), .int .i64 44⟩,
    ⟨.slcStr (.c (.symS 89)) none (some (.c (.int .i64 2))), .str [77, 59]⟩]
    (⟨by kernel_rfl, ⟨by kernel_rfl, trivial⟩⟩)
    []
    trivial (by kernel_rfl) (by kernel_rfl) (by kernel_rfl)
def o212 : Ob := (129, [.symS 89], .ret (.str [77]))
theorem q212 (a b : Int) (H : Hy a b) : Ans (i0 a b) (s0 a b) o212 := by
  show Ans (i0 a b) (s0 a b) (129, [.symS 89], .ret (.str [77]))
  letI := bare (i0 a b) (s0 a b)
  exact word_ob [77] [59, 32, 67, 79, 78, 83, 84, 32, 99, 32, 61, 32, 48, (dg a 7), (dg a 6), (dg a 5), (dg a 4), (dg a 3), (dg a 2), (dg a 1), (dg a 0), 72, 32, 61, 32, 48, (dg b 7), (dg b 6), (dg b 5), (dg b 4), (dg b 3), (dg b 2), (dg b 1), (dg b 0), 72, 59, 32, 69, 78, 68, 32, 77, 46] (by kernel_rfl) (by kernel_rfl) rfl (al_all (by kernel_rfl)) (nal_ok (by kernel_rfl))
def o213 : Ob := (73, [.symS 89], .ret (.tup [.agg [.int .i64 1, .str [77], .int .i64 0, .int .i64 0], .int .i64 1, .int .i64 0]))
theorem q213 (a b : Int) (H : Hy a b) : Ans (i0 a b) (s0 a b) o213 := by
  have H0 := H
  exact ans [⟨.idxStr (.c (.symS 89)) (.c (.int .i64 0)), .int .u8 77⟩]
    (⟨by kernel_rfl, trivial⟩)
    [o212]
    ⟨q212 a b H0, trivial⟩ (by kernel_rfl) (by kernel_rfl) (by kernel_rfl)
def o214 : Ob := (69, [.symS 90, .str [32, 9, 10, 13]], .ret (.symS 90))
theorem q214 (a b : Int) (H : Hy a b) : Ans (i0 a b) (s0 a b) o214 := by
  have H0 := H
  exact ans [⟨.bin .eql (.c (.symS 90)) (.c (.str [])), .bool false⟩,
    ⟨.len true (.c (.symS 90)), .int .i64 43⟩,
    ⟨.idxStr (.c (.symS 90)) (.c (.int .i64 0)), .int .u8 59⟩]
    (⟨by kernel_rfl, ⟨by kernel_rfl, ⟨by kernel_rfl, trivial⟩⟩⟩)
    []
    trivial (by kernel_rfl) (by kernel_rfl) (by kernel_rfl)
def o215 : Ob := (70, [.symS 90, .str [40, 42]], .ret (.bool false))
theorem q215 (a b : Int) (H : Hy a b) : Ans (i0 a b) (s0 a b) o215 := by
  have H0 := H
  exact ans [⟨.len true (.c (.symS 90)), .int .i64 43⟩,
    ⟨.slcStr (.c (.symS 90)) none (some (.c (.int .i64 2))), .str [59, 32]⟩]
    (⟨by kernel_rfl, ⟨by kernel_rfl, trivial⟩⟩)
    []
    trivial (by kernel_rfl) (by kernel_rfl) (by kernel_rfl)
def o216 : Ob := (129, [.symS 90], .ret (.str []))
theorem q216 (a b : Int) (H : Hy a b) : Ans (i0 a b) (s0 a b) o216 := by
  show Ans (i0 a b) (s0 a b) (129, [.symS 90], .ret (.str []))
  letI := bare (i0 a b) (s0 a b)
  exact word_ob [] [59, 32, 67, 79, 78, 83, 84, 32, 99, 32, 61, 32, 48, (dg a 7), (dg a 6), (dg a 5), (dg a 4), (dg a 3), (dg a 2), (dg a 1), (dg a 0), 72, 32, 61, 32, 48, (dg b 7), (dg b 6), (dg b 5), (dg b 4), (dg b 3), (dg b 2), (dg b 1), (dg b 0), 72, 59, 32, 69, 78, 68, 32, 77, 46] (by kernel_rfl) (by kernel_rfl) rfl (al_all (by kernel_rfl)) (nal_ok (by kernel_rfl))
def o217 : Ob := (73, [.symS 90], .ret (.tup [.agg [.int .i64 6, .str [59], .int .i64 0, .int .i64 0], .int .i64 1, .int .i64 0]))
theorem q217 (a b : Int) (H : Hy a b) : Ans (i0 a b) (s0 a b) o217 := by
  have H0 := H
  exact ans [⟨.idxStr (.c (.symS 90)) (.c (.int .i64 0)), .int .u8 59⟩,
    ⟨.len true (.c (.symS 90)), .int .i64 43⟩,
    ⟨.slcStr (.c (.symS 90)) none (some (.c (.int .i64 2))), .str [59, 32]⟩,
    ⟨.slcStr (.c (.symS 90)) none (some (.c (.int .i64 1))), .str [59]⟩]
    (⟨by kernel_rfl, ⟨by kernel_rfl, ⟨by kernel_rfl, ⟨by kernel_rfl, trivial⟩⟩⟩⟩)
    [o216,
    o14]
    ⟨q216 a b H0, ⟨q14 a b H0, trivial⟩⟩ (by kernel_rfl) (by kernel_rfl) (by kernel_rfl)
def o218 : Ob := (69, [.symS 91, .str [32, 9, 10, 13]], .ret (.symS 92))
theorem q218 (a b : Int) (H : Hy a b) : Ans (i0 a b) (s0 a b) o218 := by
  have H0 := H
  exact ans [⟨.bin .eql (.c (.symS 91)) (.c (.str [])), .bool false⟩,
    ⟨.len true (.c (.symS 91)), .int .i64 42⟩,
    ⟨.idxStr (.c (.symS 91)) (.c (.int .i64 0)), .int .u8 32⟩,
    ⟨.slcStr (.c (.symS 91)) (some (.c (.int .i64 1))) none, .symS 92⟩,
    ⟨.len true (.c (.symS 92)), .int .i64 41⟩,
    ⟨.idxStr (.c (.symS 92)) (.c (.int .i64 0)), .int .u8 67⟩]
    (⟨by kernel_rfl, ⟨by kernel_rfl, ⟨by kernel_rfl, ⟨by kernel_rfl, ⟨by kernel_rfl, ⟨by kernel_rfl, trivial⟩⟩⟩⟩⟩⟩)
    []
    trivial (by kernel_rfl) (by kernel_rfl) (by kernel_rfl)
def o219 : Ob := (70, [.symS 92, .str [40, 42]], .ret (.bool false))
theorem q219 (a b : Int) (H : Hy a b) : Ans (i0 a b) (s0 a b) o219 := by
  have H0 := H
  exact ans [⟨.len true (.c (.symS 92)), .int .i64 41⟩,
    ⟨.slcStr (.c (.symS 92)) none (some (.c (.int .i64 2))), .str [67, 79]⟩]
    (⟨by kernel_rfl, ⟨by kernel_rfl, trivial⟩⟩)
    []
    trivial (by kernel_rfl) (by kernel_rfl) (by kernel_rfl)
def o220 : Ob := (129, [.symS 92], .ret (.str [67, 79, 78, 83, 84]))
theorem q220 (a b : Int) (H : Hy a b) : Ans (i0 a b) (s0 a b) o220 := by
  show Ans (i0 a b) (s0 a b) (129, [.symS 92], .ret (.str [67, 79, 78, 83, 84]))
  letI := bare (i0 a b) (s0 a b)
  exact word_ob [67, 79, 78, 83, 84] [32, 99, 32, 61, 32, 48, (dg a 7), (dg a 6), (dg a 5), (dg a 4), (dg a 3), (dg a 2), (dg a 1), (dg a 0), 72, 32, 61, 32, 48, (dg b 7), (dg b 6), (dg b 5), (dg b 4), (dg b 3), (dg b 2), (dg b 1), (dg b 0), 72, 59, 32, 69, 78, 68, 32, 77, 46] (by kernel_rfl) (by kernel_rfl) rfl (al_all (by kernel_rfl)) (nal_ok (by kernel_rfl))
def o221 : Ob := (73, [.symS 92], .ret (.tup [.agg [.int .i64 2, .str [67, 79, 78, 83, 84], .int .i64 0, .int .i64 0], .int .i64 5, .int .i64 0]))
theorem q221 (a b : Int) (H : Hy a b) : Ans (i0 a b) (s0 a b) o221 := by
  have H0 := H
  exact ans [⟨.idxStr (.c (.symS 92)) (.c (.int .i64 0)), .int .u8 67⟩]
    (⟨by kernel_rfl, trivial⟩)
    [o220]
    ⟨q220 a b H0, trivial⟩ (by kernel_rfl) (by kernel_rfl) (by kernel_rfl)
def o222 : Ob := (69, [.symS 93, .str [32, 9, 10, 13]], .ret (.symS 94))
theorem q222 (a b : Int) (H : Hy a b) : Ans (i0 a b) (s0 a b) o222 := by
  have H0 := H
  exact ans [⟨.bin .eql (.c (.symS 93)) (.c (.str [])), .bool false⟩,
    ⟨.len true (.c (.symS 93)), .int .i64 36⟩,
    ⟨.idxStr (.c (.symS 93)) (.c (.int .i64 0)), .int .u8 32⟩,
    ⟨.slcStr (.c (.symS 93)) (some (.c (.int .i64 1))) none, .symS 94⟩,
    ⟨.len true (.c (.symS 94)), .int .i64 35⟩,
    ⟨.idxStr (.c (.symS 94)) (.c (.int .i64 0)), .int .u8 99⟩]
    (⟨by kernel_rfl, ⟨by kernel_rfl, ⟨by kernel_rfl, ⟨by kernel_rfl, ⟨by kernel_rfl, ⟨by kernel_rfl, trivial⟩⟩⟩⟩⟩⟩)
    []
    trivial (by kernel_rfl) (by kernel_rfl) (by kernel_rfl)
def o223 : Ob := (70, [.symS 94, .str [40, 42]], .ret (.bool false))
theorem q223 (a b : Int) (H : Hy a b) : Ans (i0 a b) (s0 a b) o223 := by
  have H0 := H
  exact ans [⟨.len true (.c (.symS 94)), .int .i64 35⟩,
    ⟨.slcStr (.c (.symS 94)) none (some (.c (.int .i64 2))), .str [99, 32]⟩]
    (⟨by kernel_rfl, ⟨by kernel_rfl, trivial⟩⟩)
    []
    trivial (by kernel_rfl) (by kernel_rfl) (by kernel_rfl)
def o224 : Ob := (129, [.symS 94], .ret (.str [99]))
theorem q224 (a b : Int) (H : Hy a b) : Ans (i0 a b) (s0 a b) o224 := by
  show Ans (i0 a b) (s0 a b) (129, [.symS 94], .ret (.str [99]))
  letI := bare (i0 a b) (s0 a b)
  exact word_ob [99] [32, 61, 32, 48, (dg a 7), (dg a 6), (dg a 5), (dg a 4), (dg a 3), (dg a 2), (dg a 1), (dg a 0), 72, 32, 61, 32, 48, (dg b 7), (dg b 6), (dg b 5), (dg b 4), (dg b 3), (dg b 2), (dg b 1), (dg b 0), 72, 59, 32, 69, 78, 68, 32, 77, 46] (by kernel_rfl) (by kernel_rfl) rfl (al_all (by kernel_rfl)) (nal_ok (by kernel_rfl))
def o225 : Ob := (73, [.symS 94], .ret (.tup [.agg [.int .i64 1, .str [99], .int .i64 0, .int .i64 0], .int .i64 1, .int .i64 0]))
theorem q225 (a b : Int) (H : Hy a b) : Ans (i0 a b) (s0 a b) o225 := by
  have H0 := H
  exact ans [⟨.idxStr (.c (.symS 94)) (.c (.int .i64 0)), .int .u8 99⟩]
    (⟨by kernel_rfl, trivial⟩)
    [o224]
    ⟨q224 a b H0, trivial⟩ (by kernel_rfl) (by kernel_rfl) (by kernel_rfl)
def o226 : Ob := (69, [.symS 95, .str [32, 9, 10, 13]], .ret (.symS 96))
theorem q226 (a b : Int) (H : Hy a b) : Ans (i0 a b) (s0 a b) o226 := by
  have H0 := H
  exact ans [⟨.bin .eql (.c (.symS 95)) (.c (.str [])), .bool false⟩,
    ⟨.len true (.c (.symS 95)), .int .i64 34⟩,
    ⟨.idxStr (.c (.symS 95)) (.c (.int .i64 0)), .int .u8 32⟩,
    ⟨.slcStr (.c (.symS 95)) (some (.c (.int .i64 1))) none, .symS 96⟩,
    ⟨.len true (.c (.symS 96)), .int .i64 33⟩,
    ⟨.idxStr (.c (.symS 96)) (.c (.int .i64 0)), .int .u8 61⟩]
    (⟨by kernel_rfl, ⟨by kernel_rfl, ⟨by kernel_rfl, ⟨by kernel_rfl, ⟨by kernel_rfl, ⟨by kernel_rfl, trivial⟩⟩⟩⟩⟩⟩)
    []
    trivial (by kernel_rfl) (by kernel_rfl) (by kernel_rfl)
def o227 : Ob := (70, [.symS 96, .str [40, 42]], .ret (.bool false))
theorem q227 (a b : Int) (H : Hy a b) : Ans (i0 a b) (s0 a b) o227 := by
  have H0 := H
  exact ans [⟨.len true (.c (.symS 96)), .int .i64 33⟩,
    ⟨.slcStr (.c (.symS 96)) none (some (.c (.int .i64 2))), .str [61, 32]⟩]
    (⟨by kernel_rfl, ⟨by kernel_rfl, trivial⟩⟩)
    []
    trivial (by kernel_rfl) (by kernel_rfl) (by kernel_rfl)
def o228 : Ob := (129, [.symS 96], .ret (.str []))
theorem q228 (a b : Int) (H : Hy a b) : Ans (i0 a b) (s0 a b) o228 := by
  show Ans (i0 a b) (s0 a b) (129, [.symS 96], .ret (.str []))
  letI := bare (i0 a b) (s0 a b)
  exact word_ob [] [61, 32, 48, (dg a 7), (dg a 6), (dg a 5), (dg a 4), (dg a 3), (dg a 2), (dg a 1), (dg a 0), 72, 32, 61, 32, 48, (dg b 7), (dg b 6), (dg b 5), (dg b 4), (dg b 3), (dg b 2), (dg b 1), (dg b 0), 72, 59, 32, 69, 78, 68, 32, 77, 46] (by kernel_rfl) (by kernel_rfl) rfl (al_all (by kernel_rfl)) (nal_ok (by kernel_rfl))
def o229 : Ob := (73, [.symS 96], .ret (.tup [.agg [.int .i64 6, .str [61], .int .i64 0, .int .i64 0], .int .i64 1, .int .i64 0]))
theorem q229 (a b : Int) (H : Hy a b) : Ans (i0 a b) (s0 a b) o229 := by
  have H0 := H
  exact ans [⟨.idxStr (.c (.symS 96)) (.c (.int .i64 0)), .int .u8 61⟩,
    ⟨.len true (.c (.symS 96)), .int .i64 33⟩,
    ⟨.slcStr (.c (.symS 96)) none (some (.c (.int .i64 2))), .str [61, 32]⟩,
    ⟨.slcStr (.c (.symS 96)) none (some (.c (.int .i64 1))), .str [61]⟩]
    (⟨by kernel_rfl, ⟨by kernel_rfl, ⟨by kernel_rfl, ⟨by kernel_rfl, trivial⟩⟩⟩⟩)
    [o228,
    o27]
    ⟨q228 a b H0, ⟨q27 a b H0, trivial⟩⟩ (by kernel_rfl) (by kernel_rfl) (by kernel_rfl)
def o230 : Ob := (69, [.symS 97, .str [32, 9, 10, 13]], .ret (.symS 98))
theorem q230 (a b : Int) (H : Hy a b) : Ans (i0 a b) (s0 a b) o230 := by
  have H0 := H
  exact ans [⟨.bin .eql (.c (.symS 97)) (.c (.str [])), .bool false⟩,
    ⟨.len true (.c (.symS 97)), .int .i64 32⟩,
    ⟨.idxStr (.c (.symS 97)) (.c (.int .i64 0)), .int .u8 32⟩,
    ⟨.slcStr (.c (.symS 97)) (some (.c (.int .i64 1))) none, .symS 98⟩,
    ⟨.len true (.c (.symS 98)), .int .i64 31⟩,
    ⟨.idxStr (.c (.symS 98)) (.c (.int .i64 0)), .int .u8 48⟩]
    (⟨by kernel_rfl, ⟨by kernel_rfl, ⟨by kernel_rfl, ⟨by kernel_rfl, ⟨by kernel_rfl, ⟨by kernel_rfl, trivial⟩⟩⟩⟩⟩⟩)
    []
    trivial (by kernel_rfl) (by kernel_rfl) (by kernel_rfl)
def o231 : Ob := (70, [.symS 98, .str [40, 42]], .ret (.bool false))
theorem q231 (a b : Int) (H : Hy a b) : Ans (i0 a b) (s0 a b) o231 := by
  have H0 := H
  exact ans [⟨.len true (.c (.symS 98)), .int .i64 31⟩,
    ⟨.slcStr (.c (.symS 98)) none (some (.c (.int .i64 2))), .symS 56⟩,
    ⟨.bin .eql (.c (.symS 56)) (.c (.str [40, 42])), .bool false⟩]
    (⟨by kernel_rfl, ⟨by kernel_rfl, ⟨by kernel_rfl, trivial⟩⟩⟩)
    []
    trivial (by kernel_rfl) (by kernel_rfl) (by kernel_rfl)
def o232 : Ob := (129, [.symS 98], .ret (.symS 0))
theorem q232 (a b : Int) (H : Hy a b) : Ans (i0 a b) (s0 a b) o232 := by
  show Ans (i0 a b) (s0 a b) (129, [.symS 98], .ret (.symS 0))
  letI := bare (i0 a b) (s0 a b)
  exact word_ob (dgs a ++ [72]) [32, 61, 32, 48, (dg b 7), (dg b 6), (dg b 5), (dg b 4), (dg b 3), (dg b 2), (dg b 1), (dg b 0), 72, 59, 32, 69, 78, 68, 32, 77, 46] (by kernel_rfl) (by kernel_rfl) rfl (dgs_alnum a) (nal_ok (by kernel_rfl))
def o233 : Ob := (73, [.symS 98], .ret (.tup [.agg [.int .i64 3, .str [], .sym .i64 50, .int .i64 0], .int .i64 10, .int .i64 0]))
theorem q233 (a b : Int) (H : Hy a b) : Ans (i0 a b) (s0 a b) o233 := by
  have H0 := H
  exact ans [⟨.idxStr (.c (.symS 98)) (.c (.int .i64 0)), .int .u8 48⟩,
    ⟨.len true (.c (.symS 0)), .int .i64 10⟩]
    (⟨by kernel_rfl, ⟨by kernel_rfl, trivial⟩⟩)
    [o232,
    o35]
    ⟨q232 a b H0, ⟨q35 a b H0, trivial⟩⟩ (by kernel_rfl) (by kernel_rfl) (by kernel_rfl)
def o234 : Ob := (69, [.symS 99, .str [32, 9, 10, 13]], .ret (.symS 100))
theorem q234 (a b : Int) (H : Hy a b) : Ans (i0 a b) (s0 a b) o234 := by
  have H0 := H
  exact ans [⟨.bin .eql (.c (.symS 99)) (.c (.str [])), .bool false⟩,
    ⟨.len true (.c (.symS 99)), .int .i64 21⟩,
    ⟨.idxStr (.c (.symS 99)) (.c (.int .i64 0)), .int .u8 32⟩,
    ⟨.slcStr (.c (.symS 99)) (some (.c (.int .i64 1))) none, .symS 100⟩,
    ⟨.len true (.c (.symS 100)), .int .i64 20⟩,
    ⟨.idxStr (.c (.symS 100)) (.c (.int .i64 0)), .int .u8 61⟩]
    (⟨by kernel_rfl, ⟨by kernel_rfl, ⟨by kernel_rfl, ⟨by kernel_rfl, ⟨by kernel_rfl, ⟨by kernel_rfl, trivial⟩⟩⟩⟩⟩⟩)
    []
    trivial (by kernel_rfl) (by kernel_rfl) (by kernel_rfl)
def o235 : Ob := (70, [.symS 100, .str [40, 42]], .ret (.bool false))
theorem q235 (a b : Int) (H : Hy a b) : Ans (i0 a b) (s0 a b) o235 := by
  have H0 := H
  exact ans [⟨.len true (.c (.symS 100)), .int .i64 20⟩,
    ⟨.slcStr (.c (.symS 100)) none (some (.c (.int .i64 2))), .str [61, 32]⟩]
    (⟨by kernel_rfl, ⟨by kernel_rfl, trivial⟩⟩)
    []
    trivial (by kernel_rfl) (by kernel_rfl) (by kernel_rfl)
def o236 : Ob := (129, [.symS 100], .ret (.str []))
theorem q236 (a b : Int) (H : Hy a b) : Ans (i0 a b) (s0 a b) o236 := by
  show Ans (i0 a b) (s0 a b) (129, [.symS 100], .ret (.str []))
  letI := bare (i0 a b) (s0 a b)
  exact word_ob [] [61, 32, 48, (dg b 7), (dg b 6), (dg b 5), (dg b 4), (dg b 3), (dg b 2), (dg b 1), (dg b 0), 72, 59, 32, 69, 78, 68, 32, 77, 46] (by kernel_rfl) (by kernel_rfl) rfl (al_all (by kernel_rfl)) (nal_ok (by kernel_rfl))
def o237 : Ob := (73, [.symS 100], .ret (.tup [.agg [.int .i64 6, .str [61], .int .i64 0, .int .i64 0], .int .i64 1, .int .i64 0]))
theorem q237 (a b : Int) (H : Hy a b) : Ans (i0 a b) (s0 a b) o237 := by
  have H0 := H
  exact ans [⟨.idxStr (.c (.symS 100)) (.c (.int .i64 0)), .int .u8 61⟩,
    ⟨.len true (.c (.symS 100)), .int .i64 20⟩,
    ⟨.slcStr (.c (.symS 100)) none (some (.c (.int .i64 2))), .str [61, 32]⟩,
    ⟨.slcStr (.c (.symS 100)) none (some (.c (.int .i64 1))), .str [61]⟩]
    (⟨by kernel_rfl, ⟨by kernel_rfl, ⟨by kernel_rfl, ⟨by kernel_rfl, trivial⟩⟩⟩⟩)
    [o236,
    o27]
    ⟨q236 a b H0, ⟨q27 a b H0, trivial⟩⟩ (by kernel_rfl) (by kernel_rfl) (by kernel_rfl)
def o238 : Ob := (22, [.symS 39], .ret (.tup [.sl [] [.agg [.int .i64 2, .str [77, 79, 68, 85, 76, 69], .int .i64 0, .int .i64 0], .agg [.int .i64 1, .str [77], .int .i64 0, .int .i64 7], .agg [.int .i64 6, .str [59], .int .i64 0, .int .i64 8], .agg [.int .i64 2, .str [67, 79, 78, 83, 84], .int .i64 0, .int .i64 10], .agg [.int .i64 1, .str [99], .int .i64 0, .int .i64 16], .agg [.int .i64 6, .str [61], .int .i64 0, .int .i64 18], .agg [.int .i64 3, .str [], .sym .i64 50, .int .i64 20], .agg [.int .i64 6, .str [61], .int .i64 0, .int .i64 31], .agg [.int .i64 3, .str [], .sym .i64 53, .int .i64 33], .agg [.int .i64 6, .str [59], .int .i64 0, .int .i64 43], .agg [.int .i64 2, .str [69, 78, 68], .int .i64 0, .int .i64 45], .agg [.int .i64 1, .str [77], .int .i64 0, .int .i64 49], .agg [.int .i64 6, .str [46], .int .i64 0, .int .i64 50], .agg [.int .i64 0, .str [], .int .i64 0, .int .i64 51]], .int .i64 0, .int .i64 0]))
theorem q238 (a b : Int) (H : Hy a b) : Ans (i0 a b) (s0 a b) o238 := by
  have H0 := H
  exact ans [⟨.len true (.c (.symS 39)), .int .i64 51⟩,
    ⟨.slcStr (.c (.symS 39)) (some (.c (.int .i64 0))) none, .symS 39⟩,
    ⟨.bin .eql (.c (.symS 39)) (.c (.str [])), .bool false⟩,
    ⟨.slcStr (.c (.symS 39)) (some (.c (.int .i64 6))) none, .symS 88⟩,
    ⟨.len true (.c (.symS 89)), .int .i64 44⟩,
    ⟨.bin .eql (.c (.symS 89)) (.c (.str [])), .bool false⟩,
    ⟨.slcStr (.c (.symS 39)) (some (.c (.int .i64 8))) none, .symS 90⟩,
    ⟨.len true (.c (.symS 90)), .int .i64 43⟩,
    ⟨.bin .eql (.c (.symS 90)) (.c (.str [])), .bool false⟩,
    ⟨.slcStr (.c (.symS 39)) (some (.c (.int .i64 9))) none, .symS 91⟩,
    ⟨.len true (.c (.symS 92)), .int .i64 41⟩,
    ⟨.bin .eql (.c (.symS 92)) (.c (.str [])), .bool false⟩,
    ⟨.slcStr (.c (.symS 39)) (some (.c (.int .i64 15))) none, .symS 93⟩,
    ⟨.len true (.c (.symS 94)), .int .i64 35⟩,
    ⟨.bin .eql (.c (.symS 94)) (.c (.str [])), .bool false⟩,
    ⟨.slcStr (.c (.symS 39)) (some (.c (.int .i64 17))) none, .symS 95⟩,
    ⟨.len true (.c (.symS 96)), .int .i64 33⟩,
    ⟨.bin .eql (.c (.symS 96)) (.c (.str [])), .bool false⟩,
    ⟨.slcStr (.c (.symS 39)) (some (.c (.int .i64 19))) none, .symS 97⟩,
    ⟨.len true (.c (.symS 98)), .int .i64 31⟩,
    ⟨.bin .eql (.c (.symS 98)) (.c (.str [])), .bool false⟩,
    ⟨.slcStr (.c (.symS 39)) (some (.c (.int .i64 30))) none, .symS 99⟩,
    ⟨.len true (.c (.symS 100)), .int .i64 20⟩,
    ⟨.bin .eql (.c (.symS 100)) (.c (.str [])), .bool false⟩,
    ⟨.slcStr (.c (.symS 39)) (some (.c (.int .i64 32))) none, .symS 59⟩,
    ⟨.len true (.c (.symS 60)), .int .i64 18⟩,
    ⟨.bin .eql (.c (.symS 60)) (.c (.str [])), .bool false⟩,
    ⟨.slcStr (.c (.symS 39)) (some (.c (.int .i64 43))) none, .str [59, 32, 69, 78, 68, 32, 77, 46]⟩,
    ⟨.slcStr (.c (.symS 39)) (some (.c (.int .i64 44))) none, .str [32, 69, 78, 68, 32, 77, 46]⟩,
    ⟨.slcStr (.c (.symS 39)) (some (.c (.int .i64 48))) none, .str [32, 77, 46]⟩,
    ⟨.slcStr (.c (.symS 39)) (some (.c (.int .i64 50))) none, .str [46]⟩,
    ⟨.slcStr (.c (.symS 39)) (some (.c (.int .i64 51))) none, .str []⟩]
    (⟨by kernel_rfl, ⟨by kernel_rfl, ⟨by kernel_rfl, ⟨by kernel_rfl, ⟨by kernel_rfl, ⟨by kernel_rfl, ⟨by kernel_rfl, ⟨by kernel_rfl, ⟨by kernel_rfl, ⟨by kernel_rfl, ⟨by kernel_rfl, ⟨by kernel_rfl, ⟨by kernel_rfl, ⟨by kernel_rfl, ⟨by kernel_rfl, ⟨by kernel_rfl, ⟨by kernel_rfl, ⟨by kernel_rfl, ⟨by kernel_rfl, ⟨by kernel_rfl, ⟨by kernel_rfl, ⟨by kernel_rfl, ⟨by kernel_rfl, ⟨by kernel_rfl, ⟨by kernel_rfl, ⟨by kernel_rfl, ⟨by kernel_rfl, ⟨by kernel_rfl, ⟨by kernel_rfl, ⟨by kernel_rfl, ⟨by kernel_rfl, ⟨by kernel_rfl, trivial⟩⟩⟩⟩⟩⟩⟩⟩⟩⟩⟩⟩⟩⟩⟩⟩⟩⟩⟩⟩⟩⟩⟩⟩⟩⟩⟩⟩⟩⟩⟩⟩)
    [o206,
    o207,
    o209,
    o210,
    o211,
    o213,
    o214,
    o215,
    o217,
    o218,
    o219,
    o221,
    o222,
    o223,
    o225,
    o226,
    o227,
    o229,
    o230,
    o231,
    o233,
    o234,
    o235,
    o237,
    o42,
    o43,
    o49,
    o14,
    o50]
    ⟨q206 a b H0, ⟨q207 a b H0, ⟨q209 a b H0, ⟨q210 a b H0, ⟨q211 a b H0, ⟨q213 a b H0, ⟨q214 a b H0, ⟨q215 a b H0, ⟨q217 a b H0, ⟨q218 a b H0, ⟨q219 a b H0, ⟨q221 a b H0, ⟨q222 a b H0, ⟨q223 a b H0, ⟨q225 a b H0, ⟨q226 a b H0, ⟨q227 a b H0, ⟨q229 a b H0, ⟨q230 a b H0, ⟨q231 a b H0, ⟨q233 a b H0, ⟨q234 a b H0, ⟨q235 a b H0, ⟨q237 a b H0, ⟨q42 a b H0, ⟨q43 a b H0, ⟨q49 a b H0, ⟨q14 a b H0, ⟨q50 a b H0, trivial⟩⟩⟩⟩⟩⟩⟩⟩⟩⟩⟩⟩⟩⟩⟩⟩⟩⟩⟩⟩⟩⟩⟩⟩⟩⟩⟩⟩⟩ (by kernel_rfl) (by kernel_rfl) (by kernel_rfl)
def o239 : Ob := (170, [.int .i64 24, .sym .i64 50, .sym .i64 53], .ret (.int .i64 0))
theorem q239 (a b : Int) (H : Hy a b) (hc : a < b) : Ans (i0 a b) (s0 a b) o239 := by
  have H0 := H
  have hc0 := hc
  obtain ⟨h1, h2, h3, h4⟩ := H
  have ea := q0_lt a
  have fa : qn a 0 = (a % 4294967296).toNat := rfl
  have eb := q0_lt b
  have fb : qn b 0 = (b % 4294967296).toNat := rfl
  exact ans [⟨.convI .i32 (.c (.sym .i64 50)), .sym .i32 0⟩,
    ⟨.convI .i32 (.c (.sym .i64 53)), .sym .i32 1⟩,
    ⟨.bin .eql (.c (.sym .i64 50)) (.c (.sym .i64 53)), .bool false⟩]
    (⟨(Eq.trans (b := some (.int .i32 (IntKind.i32.wrap (a : Int)))) (by kernel_rfl) (f_int (p := (IntKind.i32.wrap (a : Int))) (q := (a : Int)) (by simp only [IntKind.wrap_i64, IntKind.wrap_i32, IntKind.wrap_u64, IntKind.wrap_u32, Int.tdiv_one, Int.tmod_one] <;> omega))), ⟨(Eq.trans (b := some (.int .i32 (IntKind.i32.wrap (b : Int)))) (by kernel_rfl) (f_int (p := (IntKind.i32.wrap (b : Int))) (q := (b : Int)) (by simp only [IntKind.wrap_i64, IntKind.wrap_i32, IntKind.wrap_u64, IntKind.wrap_u32, Int.tdiv_one, Int.tmod_one] <;> omega))), ⟨(Eq.trans (b := some (.bool (((a : Int) == (b : Int))))) (by kernel_rfl) (f_bool (q := false) (beq_eq_false_iff_ne.2 (by omega)))), trivial⟩⟩⟩)
    []
    trivial (by kernel_rfl) (by kernel_rfl) (by kernel_rfl)
def o240 : Ob := (170, [.int .i64 24, .sym .i64 50, .sym .i64 53], .ret (.int .i64 1))
theorem q240 (a b : Int) (H : Hy a b) (hc : a = b) : Ans (i0 a b) (s0 a b) o240 := by
  have H0 := H
  have hc0 := hc
  obtain ⟨h1, h2, h3, h4⟩ := H
  have ea := q0_lt a
  have fa : qn a 0 = (a % 4294967296).toNat := rfl
  have eb := q0_lt b
  have fb : qn b 0 = (b % 4294967296).toNat := rfl
  exact ans [⟨.convI .i32 (.c (.sym .i64 50)), .sym .i32 0⟩,
    ⟨.convI .i32 (.c (.sym .i64 53)), .sym .i32 1⟩,
    ⟨.bin .eql (.c (.sym .i64 50)) (.c (.sym .i64 53)), .bool true⟩]
    (⟨(Eq.trans (b := some (.int .i32 (IntKind.i32.wrap (a : Int)))) (by kernel_rfl) (f_int (p := (IntKind.i32.wrap (a : Int))) (q := (a : Int)) (by simp only [IntKind.wrap_i64, IntKind.wrap_i32, IntKind.wrap_u64, IntKind.wrap_u32, Int.tdiv_one, Int.tmod_one] <;> omega))), ⟨(Eq.trans (b := some (.int .i32 (IntKind.i32.wrap (b : Int)))) (by kernel_rfl) (f_int (p := (IntKind.i32.wrap (b : Int))) (q := (b : Int)) (by simp only [IntKind.wrap_i64, IntKind.wrap_i32, IntKind.wrap_u64, IntKind.wrap_u32, Int.tdiv_one, Int.tmod_one] <;> omega))), ⟨(Eq.trans (b := some (.bool (((a : Int) == (b : Int))))) (by kernel_rfl) (f_bool (q := true) (beq_iff_eq.2 (by omega)))), trivial⟩⟩⟩)
    []
    trivial (by kernel_rfl) (by kernel_rfl) (by kernel_rfl)
def o241 : Ob := (170, [.int .i64 24, .sym .i64 50, .sym .i64 53], .ret (.int .i64 0))
theorem q241 (a b : Int) (H : Hy a b) (hc : b < a) : Ans (i0 a b) (s0 a b) o241 := by
  have H0 := H
  have hc0 := hc
  obtain ⟨h1, h2, h3, h4⟩ := H
  have ea := q0_lt a
  have fa : qn a 0 = (a % 4294967296).toNat := rfl
  have eb := q0_lt b
  have fb : qn b 0 = (b % 4294967296).toNat := rfl
  exact ans [⟨.convI .i32 (.c (.sym .i64 50)), .sym .i32 0⟩,
    ⟨.convI .i32 (.c (.sym .i64 53)), .sym .i32 1⟩,
    ⟨.bin .eql (.c (.sym .i64 50)) (.c (.sym .i64 53)), .bool false⟩]
    (⟨(Eq.trans (b := some (.int .i32 (IntKind.i32.wrap (a : Int)))) (by kernel_rfl) (f_int (p := (IntKind.i32.wrap (a : Int))) (q := (a : Int)) (by simp only [IntKind.wrap_i64, IntKind.wrap_i32, IntKind.wrap_u64, IntKind.wrap_u32, Int.tdiv_one, Int.tmod_one] <;> omega))), ⟨(Eq.trans (b := some (.int .i32 (IntKind.i32.wrap (b : Int)))) (by kernel_rfl) (f_int (p := (IntKind.i32.wrap (b : Int))) (q := (b : Int)) (by simp only [IntKind.wrap_i64, IntKind.wrap_i32, IntKind.wrap_u64, IntKind.wrap_u32, Int.tdiv_one, Int.tmod_one] <;> omega))), ⟨(Eq.trans (b := some (.bool (((a : Int) == (b : Int))))) (by kernel_rfl) (f_bool (q := false) (beq_eq_false_iff_ne.2 (by omega)))), trivial⟩⟩⟩)
    []
    trivial (by kernel_rfl) (by kernel_rfl) (by kernel_rfl)
def o242 : Ob := (170, [.int .i64 24, .sym .i64 50, .sym .i64 53], .ret (.sym .i64 57))
theorem q242 (a b : Int) (H : Hy a b) : Ans (i0 a b) (s0 a b) o242 := by
  show Ans (i0 a b) (s0 a b) (170, [.int .i64 24, .sym .i64 50, .sym .i64 53], .ret (.sym .i64 57))
  rcases Int.lt_trichotomy a b with h | h | h
  · exact (q239 a b H h).den (congrArg (Vl.int .i64) ((by (first | rfl | omega | (simp only [tr] <;> split <;> omega) | (simp only [tr] <;> omega)) : (0 : Int) = ((tr (a = b)) : Int))))
  · exact (q240 a b H h).den (congrArg (Vl.int .i64) ((by (first | rfl | omega | (simp only [tr] <;> split <;> omega) | (simp only [tr] <;> omega)) : (1 : Int) = ((tr (a = b)) : Int))))
  · exact (q241 a b H h).den (congrArg (Vl.int .i64) ((by (first | rfl | omega | (simp only [tr] <;> split <;> omega) | (simp only [tr] <;> omega)) : (0 : Int) = ((tr (a = b)) : Int))))
def o243 : Ob := (5, [.symS 39, .nils], .ret (.tup [.agg [.str [77], .bool false, .nils, .nils, .sl [] [.agg [.int .i64 0, .int .i64 0, .int .i64 0, .int .i64 0, .nils, .int .i64 0, .int .i64 0], .agg [.int .i64 1, .int .i64 0, .int .i64 0, .int .i64 0, .nils, .int .i64 4, .int .i64 0], .agg [.int .i64 2, .int .i64 0, .int .i64 0, .int .i64 0, .nils, .int .i64 1, .int .i64 0], .agg [.int .i64 3, .int .i64 0, .int .i64 0, .int .i64 0, .nils, .int .i64 1, .int .i64 0], .agg [.int .i64 4, .int .i64 0, .int .i64 0, .int .i64 0, .nils, .int .i64 1, .int .i64 0], .agg [.int .i64 5, .int .i64 0, .int .i64 0, .int .i64 0, .nils, .int .i64 4, .int .i64 0], .agg [.int .i64 6, .int .i64 0, .int .i64 0, .int .i64 0, .nils, .int .i64 4, .int .i64 0], .agg [.int .i64 7, .int .i64 0, .int .i64 0, .int .i64 0, .nils, .int .i64 0, .int .i64 0]], .nils, .sl [] [.agg [.str [99], .int .i64 2, .sym .i64 57, .str [], .bool false]], .nils, .nils, .nils], .int .i64 0, .int .i64 0]))
theorem q243 (a b : Int) (H : Hy a b) : Ans (i0 a b) (s0 a b) o243 := by
  have H0 := H
  exact ans []
    (trivial)
    [o238,
    o54,
    o57,
    o242]
    ⟨q238 a b H0, ⟨q54 a b H0, ⟨q57 a b H0, ⟨q242 a b H0, trivial⟩⟩⟩⟩ (by kernel_rfl) (by kernel_rfl) (by kernel_rfl)
def o244 : Ob := (69, [.symS 40, .str [32, 9, 10, 13]], .ret (.symS 40))
theorem q244 (a b : Int) (H : Hy a b) : Ans (i0 a b) (s0 a b) o244 := by
  have H0 := H
  exact ans [⟨.bin .eql (.c (.symS 40)) (.c (.str [])), .bool false⟩,
    ⟨.len true (.c (.symS 40)), .int .i64 51⟩,
    ⟨.idxStr (.c (.symS 40)) (.c (.int .i64 0)), .int .u8 77⟩]
    (⟨by kernel_rfl, ⟨by kernel_rfl, ⟨by kernel_rfl, trivial⟩⟩⟩)
    []
    trivial (by kernel_rfl) (by kernel_rfl) (by kernel_rfl)
def o245 : Ob := (70, [.symS 40, .str [40, 42]], .ret (.bool false))
theorem q245 (a b : Int) (H : Hy a b) : Ans (i0 a b) (s0 a b) o245 := by
  have H0 := H
  exact ans [⟨.len true (.c (.symS 40)), .int .i64 51⟩,
    ⟨.slcStr (.c (.symS 40)) none (some (.c (.int .i64 2))), .str [77, 79]⟩]
    (⟨by kernel_rfl, ⟨by kernel_rfl, trivial⟩⟩)
    []
    trivial (by kernel_rfl) (by kernel_rfl) (by kernel_rfl)
def o246 : Ob := (129, [.symS 40], .ret (.str [77, 79, 68, 85, 76, 69]))
theorem q246 (a b : Int) (H : Hy a b) : Ans (i0 a b) (s0 a b) o246 := by
  show Ans (i0 a b) (s0 a b) (129, [.symS 40], .ret (.str [77, 79, 68, 85, 76, 69]))
  letI := bare (i0 a b) (s0 a b)
  exact word_ob [77, 79, 68, 85, 76, 69] [32, 77, 59, 32, 67, 79, 78, 83, 84, 32, 99, 32, 61, 32, 48, (dg a 7), (dg a 6), (dg a 5), (dg a 4), (dg a 3), (dg a 2), (dg a 1), (dg a 0), 72, 32, 35, 32, 48, (dg b 7), (dg b 6), (dg b 5), (dg b 4), (dg b 3), (dg b 2), (dg b 1), (dg b 0), 72, 59, 32, 69, 78, 68, 32, 77, 46] (by kernel_rfl) (by kernel_rfl) rfl (al_all (by kernel_rfl)) (nal_ok (by kernel_rfl))
def o247 : Ob := (73, [.symS 40], .ret (.tup [.agg [.int .i64 2, .str [77, 79, 68, 85, 76, 69], .int .i64 0, .int .i64 0], .int .i64 6, .int .i64 0]))
theorem q247 (a b : Int) (H : Hy a b) : Ans (i0 a b) (s0 a b) o247 := by
  have H0 := H
  exact ans [⟨.idxStr (.c (.symS 40)) (.c (.int .i64 0)), .int .u8 77⟩]
    (⟨by kernel_rfl, trivial⟩)
    [o246]
    ⟨q246 a b H0, trivial⟩ (by kernel_rfl) (by kernel_rfl) (by kernel_rfl)
def o248 : Ob := (69, [.symS 101, .str [32, 9, 10, 13]], .ret (.symS 102))
theorem q248 (a b : Int) (H : Hy a b) : Ans (i0 a b) (s0 a b) o248 := by
  have H0 := H
  exact ans [⟨.bin .eql (.c (.symS 101)) (.c (.str [])), .bool false⟩,
    ⟨.len true (.c (.symS 101)), .int .i64 45⟩,
    ⟨.idxStr (.c (.symS 101)) (.c (.int .i64 0)), .int .u8 32⟩,
    ⟨.slcStr (.c (.symS 101)) (some (.c (.int .i64 1))) none, .symS 102⟩,
    ⟨.len true (.c (.symS 102)), .int .i64 44⟩,
    ⟨.idxStr (.c (.symS 102)) (.c (.int .i64 0)), .int .u8 77⟩]
    (⟨by kernel_rfl, ⟨by kernel_rfl, ⟨by kernel_rfl, ⟨by kernel_rfl, ⟨by kernel_rfl, ⟨by kernel_rfl, trivial⟩⟩⟩⟩⟩⟩)
    []
    trivial (by kernel_rfl) (by kernel_rfl) (by kernel_rfl)
def o249 : Ob := (70, [.symS 102, .str [40, 42]], .ret (.bool false))
theorem q249 (a b : Int) (H : Hy a b) : Ans (i0 a b) (s0 a b) o249 := by
  have H0 := H
  exact ans [⟨.len true (.c (.symS 102)), .int .i64 44⟩,
    ⟨.slcStr (.c (.symS 102)) none (some (.c (.int .i64 2))), .str [77, 59]⟩]
    (⟨by kernel_rfl, ⟨by kernel_rfl, trivial⟩⟩)
    []
    trivial (by kernel_rfl) (by kernel_rfl) (by kernel_rfl)
def o250 : Ob := (129, [.symS 102], .ret (.str [77]))
theorem q250 (a b : Int) (H : Hy a b) : Ans (i0 a b) (s0 a b) o250 := by
  show Ans (i0 a b) (s0 a b) (129, [.symS 102], .ret (.str [77]))
  letI := bare (i0 a b) (s0 a b)
  exact word_ob [77] [59, 32, 67, 79, 78, 83, 84, 32, 99, 32, 61, 32, 48, (dg a 7), (dg a 6), (dg a 5), (dg a 4), (dg a 3), (dg a 2), (dg a 1), (dg a 0), 72, 32, 35, 32, 48, (dg b 7), (dg b 6), (dg b 5), (dg b 4), (dg b 3), (dg b 2), (dg b 1), (dg b 0), 72, 59, 32, 69, 78, 68, 32, 77, 46] (by kernel_rfl) (by kernel_rfl) rfl (al_all (by kernel_rfl)) (nal_ok (by kernel_rfl))
def o251 : Ob := (73, [.symS 102], .ret (.tup [.agg [.int .i64 1, .str [77], .int .i64 0, .int .i64 0], .int .i64 1, .int .i64 0]))
theorem q251 (a b : Int) (H : Hy a b) : Ans (i0 a b) (s0 a b) o251 := by
  have H0 := H
  exact ans [⟨.idxStr (.c (.symS 102)) (.c (.int .i64 0)), .int .u8 77⟩]
    (⟨by kernel_rfl, trivial⟩)
    [o250]
    ⟨q250 a b H0, trivial⟩ (by kernel_rfl) (by kernel_rfl) (by kernel_rfl)
def o252 : Ob := (69, [.symS 103, .str [32, 9, 10, 13]], .ret (.symS 103))
theorem q252 (a b : Int) (H : Hy a b) : Ans (i0 a b) (s0 a b) o252 := by
  have H0 := H
  exact ans [⟨.bin .eql (.c (.symS 103)) (.c (.str [])), .bool false⟩,
    ⟨.len true (.c (.symS 103)), .int .i64 43⟩,
    ⟨.idxStr (.c (.symS 103)) (.c (.int .i64 0)), .int .u8 59⟩]
    (⟨by kernel_rfl, ⟨by kernel_rfl, ⟨by kernel_rfl, trivial⟩⟩⟩)
    []
    trivial (by kernel_rfl) (by kernel_rfl) (by kernel_rfl)
def o253 : Ob := (70, [.symS 103, .str [40, 42]], .ret (.bool false))
theorem q253 (a b : Int) (H : Hy a b) : Ans (i0 a b) (s0 a b) o253 := by
  have H0 := H
  exact ans [⟨.len true (.c (.symS 103)), .int .i64 43⟩,
    ⟨.slcStr (.c (.symS 103)) none (some (.c (.int .i64 2))), .str [59, 32]⟩]
    (⟨by kernel_rfl, ⟨by kernel_rfl, trivial⟩⟩)
    []
    trivial (by kernel_rfl) (by kernel_rfl) (by kernel_rfl)
def o254 : Ob := (129, [.symS 103], .ret (.str []))
theorem q254 (a b : Int) (H : Hy a b) : Ans (i0 a b) (s0 a b) o254 := by
  show Ans (i0 a b) (s0 a b) (129, [.symS 103], .ret (.str []))
  letI := bare (i0 a b) (s0 a b)
  exact word_ob [] [59, 32, 67, 79, 78, 83, 84, 32, 99, 32, 61, 32, 48, (dg a 7), (dg a 6), (dg a 5), (dg a 4), (dg a 3), (dg a 2), (dg a 1), (dg a 0), 72, 32, 35, 32, 48, (dg b 7), (dg b 6), (dg b 5), (dg b 4), (dg b 3), (dg b 2), (dg b 1), (dg b 0), 72, 59, 32, 69, 78, 68, 32, 77, 46] (by kernel_rfl) (by kernel_rfl) rfl (al_all (by kernel_rfl)) (nal_ok (by kernel_rfl))
def o255 : Ob := (73, [.symS 103], .ret (.tup [.agg [.int .i64 6, .str [59], .int .i64 0, .int .i64 0], .int .i64 1, .int .i64 0]))
theorem q255 (a b : Int) (H : Hy a b) : Ans (i0 a b) (s0 a b) o255 := by
  have H0 := H
  exact ans [⟨.idxStr (.c (.symS 103)) (.c (.int .i64 0)), .int .u8 59⟩,
    ⟨.len true (.c (.symS 103)), .int .i64 43⟩,
    ⟨.slcStr (.c (.symS 103)) none (some (.c (.int .i64 2))), .str [59, 32]⟩,
    ⟨.slcStr (.c (.symS 103)) none (some (.c (.int .i64 1))), .str [59]⟩]
    (⟨by kernel_rfl, ⟨by kernel_rfl, ⟨by kernel_rfl, ⟨by kernel_rfl, trivial⟩⟩⟩⟩)
    [o254,
    o14]
    ⟨q254 a b H0, ⟨q14 a b H0, trivial⟩⟩ (by kernel_rfl) (by kernel_rfl) (by kernel_rfl)
def o256 : Ob := (69, [.symS 104, .str [32, 9, 10, 13]], .ret (.symS 105))
theorem q256 (a b : Int) (H : Hy a b) : Ans (i0 a b) (s0 a b) o256 := by
  have H0 := H
  exact ans [⟨.bin .eql (.c (.symS 104)) (.c (.str [])), .bool false⟩,
    ⟨.len true (.c (.symS 104)), .int .i64 42⟩,
    ⟨.idxStr (.c (.symS 104)) (.c (.int .i64 0)), .int .u8 32⟩,
    ⟨.slcStr (.c (.symS 104)) (some (.c (.int .i64 1))) none, .symS 105⟩,
    ⟨.len true (.c (.symS 105)), .int .i64 41⟩,
    ⟨.idxStr (.c (.symS 105)) (.c (.int .i64 0)), .int .u8 67⟩]
    (⟨by kernel_rfl, ⟨by kernel_rfl, ⟨by kernel_rfl, ⟨by kernel_rfl, ⟨by kernel_rfl, ⟨by kernel_rfl, trivial⟩⟩⟩⟩⟩⟩)
    []
    trivial (by kernel_rfl) (by kernel_rfl) (by kernel_rfl)
end Go.Proofs.Tryz.Vc
