/- Answers of calls. -/
import Derived.Test.YtokbomdlodainaaGreatDoorVcX
set_option linter.all false
namespace Go.Proofs.Tryz.Vc
open Go Go.Proofs Go.Ve
set_option maxRecDepth 100000
set_option maxHeartbeats 4000000
def o1 : Ob := (6, [.sym .i32 0], .ret (.symS 0))
theorem q1 (a b : Int) (H : Hy a b) : Ans (i0 a b) (s0 a b) o1 := by
  have H0 := H
  obtain ⟨h1, h2, h3, h4⟩ := H
  have ea := q0_lt a
  have fa : qn a 0 = (a % 4294967296).toNat := rfl
  have ga0 : qn a 1 = qn a 0 / 16 := rfl
  have ga1 : qn a 2 = qn a 1 / 16 := rfl
  have ga2 : qn a 3 = qn a 2 / 16 := rfl
  have ga3 : qn a 4 = qn a 3 / 16 := rfl
  have ga4 : qn a 5 = qn a 4 / 16 := rfl
  have ga5 : qn a 6 = qn a 5 / 16 := rfl
  have ga6 : qn a 7 = qn a 6 / 16 := rfl
  have eb := q0_lt b
  have fb : qn b 0 = (b % 4294967296).toNat := rfl
  exact ans [⟨.convI .u32 (.c (.sym .i32 0)), .sym .u32 2⟩,
    ⟨.bin .rem (.c (.sym .u32 2)) (.c (.int .u32 16)), .sym .u32 3⟩,
    ⟨.bin .add (.c (.sym .u32 3)) (.c (.int .u32 1)), .sym .u32 4⟩,
    ⟨.slcStr (.c (.str [48, 49, 50, 51, 52, 53, 54, 55, 56, 57, 65, 66, 67, 68, 69, 70])) (some (.c (.sym .u32 3))) (some (.c (.sym .u32 4))), .symS 2⟩,
    ⟨.bin .add (.c (.symS 2)) (.c (.str [])), .symS 2⟩,
    ⟨.bin .quo (.c (.sym .u32 2)) (.c (.int .u32 16)), .sym .u32 5⟩,
    ⟨.bin .rem (.c (.sym .u32 5)) (.c (.int .u32 16)), .sym .u32 6⟩,
    ⟨.bin .add (.c (.sym .u32 6)) (.c (.int .u32 1)), .sym .u32 7⟩,
    ⟨.slcStr (.c (.str [48, 49, 50, 51, 52, 53, 54, 55, 56, 57, 65, 66, 67, 68, 69, 70])) (some (.c (.sym .u32 6))) (some (.c (.sym .u32 7))), .symS 3⟩,
    ⟨.bin .add (.c (.symS 3)) (.c (.symS 2)), .symS 4⟩,
    ⟨.bin .quo (.c (.sym .u32 5)) (.c (.int .u32 16)), .sym .u32 8⟩,
    ⟨.bin .rem (.c (.sym .u32 8)) (.c (.int .u32 16)), .sym .u32 9⟩,
    ⟨.bin .add (.c (.sym .u32 9)) (.c (.int .u32 1)), .sym .u32 10⟩,
    ⟨.slcStr (.c (.str [48, 49, 50, 51, 52, 53, 54, 55, 56, 57, 65, 66, 67, 68, 69, 70])) (some (.c (.sym .u32 9))) (some (.c (.sym .u32 10))), .symS 5⟩,
    ⟨.bin .add (.c (.symS 5)) (.c (.symS 4)), .symS 6⟩,
    ⟨.bin .quo (.c (.sym .u32 8)) (.c (.int .u32 16)), .sym .u32 11⟩,
    ⟨.bin .rem (.c (.sym .u32 11)) (.c (.int .u32 16)), .sym .u32 12⟩,
    ⟨.bin .add (.c (.sym .u32 12)) (.c (.int .u32 1)), .sym .u32 13⟩,
    ⟨.slcStr (.c (.str [48, 49, 50, 51, 52, 53, 54, 55, 56, 57, 65, 66, 67, 68, 69, 70])) (some (.c (.sym .u32 12))) (some (.c (.sym .u32 13))), .symS 7⟩,
    ⟨.bin .add (.c (.symS 7)) (.c (.symS 6)), .symS 8⟩,
    ⟨.bin .quo (.c (.sym .u32 11)) (.c (.int .u32 16)), .sym .u32 14⟩,
    ⟨.bin .rem (.c (.sym .u32 14)) (.c (.int .u32 16)), .sym .u32 15⟩,
    ⟨.bin .add (.c (.sym .u32 15)) (.c (.int .u32 1)), .sym .u32 16⟩,
    ⟨.slcStr (.c (.str [48, 49, 50, 51, 52, 53, 54, 55, 56, 57, 65, 66, 67, 68, 69, 70])) (some (.c (.sym .u32 15))) (some (.c (.sym .u32 16))), .symS 9⟩,
    ⟨.bin .add (.c (.symS 9)) (.c (.symS 8)), .symS 10⟩,
    ⟨.bin .quo (.c (.sym .u32 14)) (.c (.int .u32 16)), .sym .u32 17⟩,
    ⟨.bin .rem (.c (.sym .u32 17)) (.c (.int .u32 16)), .sym .u32 18⟩,
    ⟨.bin .add (.c (.sym .u32 18)) (.c (.int .u32 1)), .sym .u32 19⟩,
    ⟨.slcStr (.c (.str [48, 49, 50, 51, 52, 53, 54, 55, 56, 57, 65, 66, 67, 68, 69, 70])) (some (.c (.sym .u32 18))) (some (.c (.sym .u32 19))), .symS 11⟩,
    ⟨.bin .add (.c (.symS 11)) (.c (.symS 10)), .symS 12⟩,
    ⟨.bin .quo (.c (.sym .u32 17)) (.c (.int .u32 16)), .sym .u32 20⟩,
    ⟨.bin .rem (.c (.sym .u32 20)) (.c (.int .u32 16)), .sym .u32 21⟩,
    ⟨.bin .add (.c (.sym .u32 21)) (.c (.int .u32 1)), .sym .u32 22⟩,
    ⟨.slcStr (.c (.str [48, 49, 50, 51, 52, 53, 54, 55, 56, 57, 65, 66, 67, 68, 69, 70])) (some (.c (.sym .u32 21))) (some (.c (.sym .u32 22))), .symS 13⟩,
    ⟨.bin .add (.c (.symS 13)) (.c (.symS 12)), .symS 14⟩,
    ⟨.bin .quo (.c (.sym .u32 20)) (.c (.int .u32 16)), .sym .u32 23⟩,
    ⟨.bin .rem (.c (.sym .u32 23)) (.c (.int .u32 16)), .sym .u32 23⟩,
    ⟨.bin .add (.c (.sym .u32 23)) (.c (.int .u32 1)), .sym .u32 24⟩,
    ⟨.slcStr (.c (.str [48, 49, 50, 51, 52, 53, 54, 55, 56, 57, 65, 66, 67, 68, 69, 70])) (some (.c (.sym .u32 23))) (some (.c (.sym .u32 24))), .symS 15⟩,
    ⟨.bin .add (.c (.symS 15)) (.c (.symS 14)), .symS 16⟩,
    ⟨.bin .quo (.c (.sym .u32 23)) (.c (.int .u32 16)), .int .u32 0⟩,
    ⟨.bin .add (.c (.str [48])) (.c (.symS 16)), .symS 17⟩,
    ⟨.bin .add (.c (.symS 17)) (.c (.str [72])), .symS 0⟩]
    (⟨(Eq.trans (b := some (.int .u32 (IntKind.u32.wrap (a : Int)))) (by kernel_rfl) (f_int (p := (IntKind.u32.wrap (a : Int))) (q := (((qn a 0 : Nat) : Int) : Int)) (by simp only [IntKind.wrap_i64, IntKind.wrap_i32, IntKind.wrap_u64, IntKind.wrap_u32, Int.tdiv_one, Int.tmod_one] <;> omega))), ⟨(Eq.trans (b := some (.int .u32 (Int.tmod (((qn a 0 : Nat) : Int) : Int) (16 : Int)))) (by kernel_rfl) (f_int (p := (Int.tmod (((qn a 0 : Nat) : Int) : Int) (16 : Int))) (q := (((qn a 0 % 16 : Nat) : Int) : Int)) (by rw [tmn] <;> omega))), ⟨(Eq.trans (b := some (.int .u32 (IntKind.u32.wrap ((((qn a 0 % 16 : Nat) : Int) : Int) + (1 : Int))))) (by kernel_rfl) (f_int (p := (IntKind.u32.wrap ((((qn a 0 % 16 : Nat) : Int) : Int) + (1 : Int)))) (q := (((qn a 0 % 16 + 1 : Nat) : Int) : Int)) (by simp only [IntKind.wrap_i64, IntKind.wrap_i32, IntKind.wrap_u64, IntKind.wrap_u32, Int.tdiv_one, Int.tmod_one] <;> omega))), ⟨(Eq.trans (b := pureB id' (.slcStr (.c (.str [48, 49, 50, 51, 52, 53, 54, 55, 56, 57, 65, 66, 67, 68, 69, 70])) (some (.c (.int .u32 ((qn a 0 % 16 : Nat) : Int)))) (some (.c (.int .u32 ((qn a 0 % 16 + 1 : Nat) : Int)))))) (by kernel_rfl) (f_hex (n := qn a 0 % 16) (Nat.mod_lt _ (by decide)) (by omega) (by omega) (l := [dg a 0]) rfl) : _ ), ⟨by kernel_rfl, ⟨(Eq.trans (b := some (.int .u32 (IntKind.u32.wrap (Int.tdiv (((qn a 0 : Nat) : Int) : Int) (16 : Int))))) (by kernel_rfl) (f_int (p := (IntKind.u32.wrap (Int.tdiv (((qn a 0 : Nat) : Int) : Int) (16 : Int)))) (q := (((qn a 1 : Nat) : Int) : Int)) (by rw [tdn, IntKind.wrap_u32] <;> omega))), ⟨(Eq.trans (b := some (.int .u32 (Int.tmod (((qn a 1 : Nat) : Int) : Int) (16 : Int)))) (by kernel_rfl) (f_int (p := (Int.tmod (((qn a 1 : Nat) : Int) : Int) (16 : Int))) (q := (((qn a 1 % 16 : Nat) : Int) : Int)) (by rw [tmn] <;> omega))), ⟨(Eq.trans (b := some (.int .u32 (IntKind.u32.wrap ((((qn a 1 % 16 : Nat) : Int) : Int) + (1 : Int))))) (by kernel_rfl) (f_int (p := (IntKind.u32.wrap ((((qn a 1 % 16 : Nat) : Int) : Int) + (1 : Int)))) (q := (((qn a 1 % 16 + 1 : Nat) : Int) : Int)) (by simp only [IntKind.wrap_i64, IntKind.wrap_i32, IntKind.wrap_u64, IntKind.wrap_u32, Int.tdiv_one, Int.tmod_one] <;> omega))), ⟨(Eq.trans (b := pureB id' (.slcStr (.c (.str [48, 49, 50, 51, 52, 53, 54, 55, 56, 57, 65, 66, 67, 68, 69, 70])) (some (.c (.int .u32 ((qn a 1 % 16 : Nat) : Int)))) (some (.c (.int .u32 ((qn a 1 % 16 + 1 : Nat) : Int)))))) (by kernel_rfl) (f_hex (n := qn a 1 % 16) (Nat.mod_lt _ (by decide)) (by omega) (by omega) (l := [dg a 1]) rfl) : _ ), ⟨by kernel_rfl, ⟨(Eq.trans (b := some (.int .u32 (IntKind.u32.wrap (Int.tdiv (((qn a 1 : Nat) : Int) : Int) (16 : Int))))) (by kernel_rfl) (f_int (p := (IntKind.u32.wrap (Int.tdiv (((qn a 1 : Nat) : Int) : Int) (16 : Int)))) (q := (((qn a 2 : Nat) : Int) : Int)) (by rw [tdn, IntKind.wrap_u32] <;> omega))), ⟨(Eq.trans (b := some (.int .u32 (Int.tmod (((qn a 2 : Nat) : Int) : Int) (16 : Int)))) (by kernel_rfl) (f_int (p := (Int.tmod (((qn a 2 : Nat) : Int) : Int) (16 : Int))) (q := (((qn a 2 % 16 : Nat) : Int) : Int)) (by rw [tmn] <;> omega))), ⟨(Eq.trans (b := some (.int .u32 (IntKind.u32.wrap ((((qn a 2 % 16 : Nat) : Int) : Int) + (1 : Int))))) (by kernel_rfl) (f_int (p := (IntKind.u32.wrap ((((qn a 2 % 16 : Nat) : Int) : Int) + (1 : Int)))) (q := (((qn a 2 % 16 + 1 : Nat) : Int) : Int)) (by simp only [IntKind.wrap_i64, IntKind.wrap_i32, IntKind.wrap_u64, IntKind.wrap_u32, Int.tdiv_one, Int.tmod_one] <;> omega))), ⟨(Eq.trans (b := pureB id' (.slcStr (.c (.str [48, 49, 50, 51, 52, 53, 54, 55, 56, 57, 65, 66, 67, 68, 69, 70])) (some (.c (.int .u32 ((qn a 2 % 16 : Nat) : Int)))) (some (.c (.int .u32 ((qn a 2 % 16 + 1 : Nat) : Int)))))) (by kernel_rfl) (f_hex (n := qn a 2 % 16) (Nat.mod_lt _ (by decide)) (by omega) (by omega) (l := [dg a 2]) rfl) : _ ), ⟨by kernel_rfl, ⟨(Eq.trans (b := some (.int .u32 (IntKind.u32.wrap (Int.tdiv (((qn a 2 : Nat) : Int) : Int) (16 : Int))))) (by kernel_rfl) (f_int (p := (IntKind.u32.wrap (Int.tdiv (((qn a 2 : Nat) : Int) : Int) (16 : Int)))) (q := (((qn a 3 : Nat) : Int) : Int)) (by rw [tdn, IntKind.wrap_u32] <;> omega))), ⟨(Eq.trans (b := some (.int .u32 (Int.tmod (((qn a 3 : Nat) : Int) : Int) (16 : Int)))) (by kernel_rfl) (f_int (p := (Int.tmod (((qn a 3 : Nat) : Int) : Int) (16 : Int))) (q := (((qn a 3 % 16 : Nat) : Int) : Int)) (by rw [tmn] <;> omega))), ⟨(Eq.trans (b := some (.int .u32 (IntKind.u32.wrap ((((qn a 3 % 16 : Nat) : Int) : Int) + (1 : Int))))) (by kernel_rfl) (f_int (p := (IntKind.u32.wrap ((((qn a 3 % 16 : Nat) : Int) : Int) + (1 : Int)))) (q := (((qn a 3 % 16 + 1 : Nat) : Int) : Int)) (by simp only [IntKind.wrap_i64, IntKind.wrap_i32, IntKind.wrap_u64, IntKind.wrap_u32, Int.tdiv_one, Int.tmod_one] <;> omega))), ⟨(Eq.trans (b := pureB id' (.slcStr (.c (.str [48, 49, 50, 51, 52, 53, 54, 55, 56, 57, 65, 66, 67, 68, 69, 70])) (some (.c (.int .u32 ((qn a 3 % 16 : Nat) : Int)))) (some (.c (.int .u32 ((qn a 3 % 16 + 1 : Nat) : Int)))))) (by kernel_rfl) (f_hex (n := qn a 3 % 16) (Nat.mod_lt _ (by decide)) (by omega) (by omega) (l := [dg a 3]) rfl) : _ ), ⟨by kernel_rfl, ⟨(Eq.trans (b := some (.int .u32 (IntKind.u32.wrap (Int.tdiv (((qn a 3 : Nat) : Int) : Int) (16 : Int))))) (by kernel_rfl) (f_int (p := (IntKind.u32.wrap (Int.tdiv (((qn a 3 : Nat) : Int) : Int) (16 : Int)))) (q := (((qn a 4 : Nat) : Int) : Int)) (by rw [tdn, IntKind.wrap_u32] <;> omega))), ⟨(Eq.trans (b := some (.int .u32 (Int.tmod (((qn a 4 : Nat) : Int) : Int) (16 : Int)))) (by kernel_rfl) (f_int (p := (Int.tmod (((qn a 4 : Nat) : Int) : Int) (16 : Int))) (q := (((qn a 4 % 16 : Nat) : Int) : Int)) (by rw [tmn] <;> omega))), ⟨(Eq.trans (b := some (.int .u32 (IntKind.u32.wrap ((((qn a 4 % 16 : Nat) : Int) : Int) + (1 : Int))))) (by kernel_rfl) (f_int (p := (IntKind.u32.wrap ((((qn a 4 % 16 : Nat) : Int) : Int) + (1 : Int)))) (q := (((qn a 4 % 16 + 1 : Nat) : Int) : Int)) (by simp only [IntKind.wrap_i64, IntKind.wrap_i32, IntKind.wrap_u64, IntKind.wrap_u32, Int.tdiv_one, Int.tmod_one] <;> omega))), ⟨(Eq.trans (b := pureB id' (.slcStr (.c (.str [48, 49, 50, 51, 52, 53, 54, 55, 56, 57, 65, 66, 67, 68, 69, 70])) (some (.c (.int .u32 ((qn a 4 % 16 : Nat) : Int)))) (some (.c (.int .u32 ((qn a 4 % 16 + 1 : Nat) : Int)))))) (by kernel_rfl) (f_hex (n := qn a 4 % 16) (Nat.mod_lt _ (by decide)) (by omega) (by omega) (l := [dg a 4]) rfl) : _ ), ⟨by kernel_rfl, ⟨(Eq.trans (b := some (.int .u32 (IntKind.u32.wrap (Int.tdiv (((qn a 4 : Nat) : Int) : Int) (16 : Int))))) (by kernel_rfl) (f_int (p := (IntKind.u32.wrap (Int.tdiv (((qn a 4 : Nat) : Int) : Int) (16 : Int)))) (q := (((qn a 5 : Nat) : Int) : Int)) (by rw [tdn, IntKind.wrap_u32] <;> omega))), ⟨(Eq.trans (b := some (.int .u32 (Int.tmod (((qn a 5 : Nat) : Int) : Int) (16 : Int)))) (by kernel_rfl) (f_int (p := (Int.tmod (((qn a 5 : Nat) : Int) : Int) (16 : Int))) (q := (((qn a 5 % 16 : Nat) : Int) : Int)) (by rw [tmn] <;> omega))), ⟨(Eq.trans (b := some (.int .u32 (IntKind.u32.wrap ((((qn a 5 % 16 : Nat) : Int) : Int) + (1 : Int))))) (by kernel_rfl) (f_int (p := (IntKind.u32.wrap ((((qn a 5 % 16 : Nat) : Int) : Int) + (1 : Int)))) (q := (((qn a 5 % 16 + 1 : Nat) : Int) : Int)) (by simp only [IntKind.wrap_i64, IntKind.wrap_i32, IntKind.wrap_u64, IntKind.wrap_u32, Int.tdiv_one, Int.tmod_one] <;> omega))), ⟨(Eq.trans (b := pureB id' (.slcStr (.c (.str [48, 49, 50, 51, 52, 53, 54, 55, 56, 57, 65, 66, 67, 68, 69, 70])) (some (.c (.int .u32 ((qn a 5 % 16 : Nat) : Int)))) (some (.c (.int .u32 ((qn a 5 % 16 + 1 : Nat) : Int)))))) (by kernel_rfl) (f_hex (n := qn a 5 % 16) (Nat.mod_lt _ (by decide)) (by omega) (by omega) (l := [dg a 5]) rfl) : _ ), ⟨by kernel_rfl, ⟨(Eq.trans (b := some (.int .u32 (IntKind.u32.wrap (Int.tdiv (((qn a 5 : Nat) : Int) : Int) (16 : Int))))) (by kernel_rfl) (f_int (p := (IntKind.u32.wrap (Int.tdiv (((qn a 5 : Nat) : Int) : Int) (16 : Int)))) (q := (((qn a 6 : Nat) : Int) : Int)) (by rw [tdn, IntKind.wrap_u32] <;> omega))), ⟨(Eq.trans (b := some (.int .u32 (Int.tmod (((qn a 6 : Nat) : Int) : Int) (16 : Int)))) (by kernel_rfl) (f_int (p := (Int.tmod (((qn a 6 : Nat) : Int) : Int) (16 : Int))) (q := (((qn a 6 % 16 : Nat) : Int) : Int)) (by rw [tmn] <;> omega))), ⟨(Eq.trans (b := some (.int .u32 (IntKind.u32.wrap ((((qn a 6 % 16 : Nat) : Int) : Int) + (1 : Int))))) (by kernel_rfl) (f_int (p := (IntKind.u32.wrap ((((qn a 6 % 16 : Nat) : Int) : Int) + (1 : Int)))) (q := (((qn a 6 % 16 + 1 : Nat) : Int) : Int)) (by simp only [IntKind.wrap_i64, IntKind.wrap_i32, IntKind.wrap_u64, IntKind.wrap_u32, Int.tdiv_one, Int.tmod_one] <;> omega))), ⟨(Eq.trans (b := pureB id' (.slcStr (.c (.str [48, 49, 50, 51, 52, 53, 54, 55, 56, 57, 65, 66, 67, 68, 69, 70])) (some (.c (.int .u32 ((qn a 6 % 16 : Nat) : Int)))) (some (.c (.int .u32 ((qn a 6 % 16 + 1 : Nat) : Int)))))) (by kernel_rfl) (f_hex (n := qn a 6 % 16) (Nat.mod_lt _ (by decide)) (by omega) (by omega) (l := [dg a 6]) rfl) : _ ), ⟨by kernel_rfl, ⟨(Eq.trans (b := some (.int .u32 (IntKind.u32.wrap (Int.tdiv (((qn a 6 : Nat) : Int) : Int) (16 : Int))))) (by kernel_rfl) (f_int (p := (IntKind.u32.wrap (Int.tdiv (((qn a 6 : Nat) : Int) : Int) (16 : Int)))) (q := (((qn a 7 : Nat) : Int) : Int)) (by rw [tdn, IntKind.wrap_u32] <;> omega))), ⟨(Eq.trans (b := some (.int .u32 (Int.tmod (((qn a 7 : Nat) : Int) : Int) (16 : Int)))) (by kernel_rfl) (f_int (p := (Int.tmod (((qn a 7 : Nat) : Int) : Int) (16 : Int))) (q := (((qn a 7 : Nat) : Int) : Int)) (by rw [tmn] <;> omega))), ⟨(Eq.trans (b := some (.int .u32 (IntKind.u32.wrap ((((qn a 7 : Nat) : Int) : Int) + (1 : Int))))) (by kernel_rfl) (f_int (p := (IntKind.u32.wrap ((((qn a 7 : Nat) : Int) : Int) + (1 : Int)))) (q := (((qn a 7 % 16 + 1 : Nat) : Int) : Int)) (by simp only [IntKind.wrap_i64, IntKind.wrap_i32, IntKind.wrap_u64, IntKind.wrap_u32, Int.tdiv_one, Int.tmod_one] <;> omega))), ⟨(Eq.trans (b := pureB id' (.slcStr (.c (.str [48, 49, 50, 51, 52, 53, 54, 55, 56, 57, 65, 66, 67, 68, 69, 70])) (some (.c (.int .u32 ((qn a 7 : Nat) : Int)))) (some (.c (.int .u32 ((qn a 7 % 16 + 1 : Nat) : Int)))))) (by kernel_rfl) (f_hex (n := qn a 7 % 16) (Nat.mod_lt _ (by decide)) (by omega) (by omega) (l := [dg a 7]) rfl) : _ ), ⟨by kernel_rfl, ⟨(Eq.trans (b := some (.int .u32 (IntKind.u32.wrap (Int.tdiv (((qn a 7 : Nat) : Int) : Int) (16 : Int))))) (by kernel_rfl) (f_int (p := (IntKind.u32.wrap (Int.tdiv (((qn a 7 : Nat) : Int) : Int) (16 : Int)))) (q := (0 : Int)) (by rw [tdn, IntKind.wrap_u32] <;> omega))), ⟨by kernel_rfl, ⟨by kernel_rfl, trivial⟩⟩⟩⟩⟩⟩⟩⟩⟩⟩⟩⟩⟩⟩⟩⟩⟩⟩⟩⟩⟩⟩⟩⟩⟩⟩⟩⟩⟩⟩⟩⟩⟩⟩⟩⟩⟩⟩⟩⟩⟩⟩⟩)
    []
    trivial (by kernel_rfl) (by kernel_rfl) (by kernel_rfl)
def o2 : Ob := (6, [.sym .i32 1], .ret (.symS 1))
theorem q2 (a b : Int) (H : Hy a b) : Ans (i0 a b) (s0 a b) o2 := by
  have H0 := H
  obtain ⟨h1, h2, h3, h4⟩ := H
  have ea := q0_lt a
  have fa : qn a 0 = (a % 4294967296).toNat := rfl
  have eb := q0_lt b
  have fb : qn b 0 = (b % 4294967296).toNat := rfl
  have gb0 : qn b 1 = qn b 0 / 16 := rfl
  have gb1 : qn b 2 = qn b 1 / 16 := rfl
  have gb2 : qn b 3 = qn b 2 / 16 := rfl
  have gb3 : qn b 4 = qn b 3 / 16 := rfl
  have gb4 : qn b 5 = qn b 4 / 16 := rfl
  have gb5 : qn b 6 = qn b 5 / 16 := rfl
  have gb6 : qn b 7 = qn b 6 / 16 := rfl
  exact ans [⟨.convI .u32 (.c (.sym .i32 1)), .sym .u32 25⟩,
    ⟨.bin .rem (.c (.sym .u32 25)) (.c (.int .u32 16)), .sym .u32 26⟩,
    ⟨.bin .add (.c (.sym .u32 26)) (.c (.int .u32 1)), .sym .u32 27⟩,
    ⟨.slcStr (.c (.str [48, 49, 50, 51, 52, 53, 54, 55, 56, 57, 65, 66, 67, 68, 69, 70])) (some (.c (.sym .u32 26))) (some (.c (.sym .u32 27))), .symS 18⟩,
    ⟨.bin .add (.c (.symS 18)) (.c (.str [])), .symS 18⟩,
    ⟨.bin .quo (.c (.sym .u32 25)) (.c (.int .u32 16)), .sym .u32 28⟩,
    ⟨.bin .rem (.c (.sym .u32 28)) (.c (.int .u32 16)), .sym .u32 29⟩,
    ⟨.bin .add (.c (.sym .u32 29)) (.c (.int .u32 1)), .sym .u32 30⟩,
    ⟨.slcStr (.c (.str [48, 49, 50, 51, 52, 53, 54, 55, 56, 57, 65, 66, 67, 68, 69, 70])) (some (.c (.sym .u32 29))) (some (.c (.sym .u32 30))), .symS 19⟩,
    ⟨.bin .add (.c (.symS 19)) (.c (.symS 18)), .symS 20⟩,
    ⟨.bin .quo (.c (.sym .u32 28)) (.c (.int .u32 16)), .sym .u32 31⟩,
    ⟨.bin .rem (.c (.sym .u32 31)) (.c (.int .u32 16)), .sym .u32 32⟩,
    ⟨.bin .add (.c (.sym .u32 32)) (.c (.int .u32 1)), .sym .u32 33⟩,
    ⟨.slcStr (.c (.str [48, 49, 50, 51, 52, 53, 54, 55, 56, 57, 65, 66, 67, 68, 69, 70])) (some (.c (.sym .u32 32))) (some (.c (.sym .u32 33))), .symS 21⟩,
    ⟨.bin .add (.c (.symS 21)) (.c (.symS 20)), .symS 22⟩,
    ⟨.bin .quo (.c (.sym .u32 31)) (.c (.int .u32 16)), .sym .u32 34⟩,
    ⟨.bin .rem (.c (.sym .u32 34)) (.c (.int .u32 16)), .sym .u32 35⟩,
    ⟨.bin .add (.c (.sym .u32 35)) (.c (.int .u32 1)), .sym .u32 36⟩,
    ⟨.slcStr (.c (.str [48, 49, 50, 51, 52, 53, 54, 55, 56, 57, 65, 66, 67, 68, 69, 70])) (some (.c (.sym .u32 35))) (some (.c (.sym .u32 36))), .symS 23⟩,
    ⟨.bin .add (.c (.symS 23)) (.c (.symS 22)), .symS 24⟩,
    ⟨.bin .quo (.c (.sym .u32 34)) (.c (.int .u32 16)), .sym .u32 37⟩,
    ⟨.bin .rem (.c (.sym .u32 37)) (.c (.int .u32 16)), .sym .u32 38⟩,
    ⟨.bin .add (.c (.sym .u32 38)) (.c (.int .u32 1)), .sym .u32 39⟩,
    ⟨.slcStr (.c (.str [48, 49, 50, 51, 52, 53, 54, 55, 56, 57, 65, 66, 67, 68, 69, 70])) (some (.c (.sym .u32 38))) (some (.c (.sym .u32 39))), .symS 25⟩,
    ⟨.bin .add (.c (.symS 25)) (.c (.symS 24)), .symS 26⟩,
    ⟨.bin .quo (.c (.sym .u32 37)) (.c (.int .u32 16)), .sym .u32 40⟩,
    ⟨.bin .rem (.c (.sym .u32 40)) (.c (.int .u32 16)), .sym .u32 41⟩,
    ⟨.bin .add (.c (.sym .u32 41)) (.c (.int .u32 1)), .sym .u32 42⟩,
    ⟨.slcStr (.c (.str [48, 49, 50, 51, 52, 53, 54, 55, 56, 57, 65, 66, 67, 68, 69, 70])) (some (.c (.sym .u32 41))) (some (.c (.sym .u32 42))), .symS 27⟩,
    ⟨.bin .add (.c (.symS 27)) (.c (.symS 26)), .symS 28⟩,
    ⟨.bin .quo (.c (.sym .u32 40)) (.c (.int .u32 16)), .sym .u32 43⟩,
    ⟨.bin .rem (.c (.sym .u32 43)) (.c (.int .u32 16)), .sym .u32 44⟩,
    ⟨.bin .add (.c (.sym .u32 44)) (.c (.int .u32 1)), .sym .u32 45⟩,
    ⟨.slcStr (.c (.str [48, 49, 50, 51, 52, 53, 54, 55, 56, 57, 65, 66, 67, 68, 69, 70])) (some (.c (.sym .u32 44))) (some (.c (.sym .u32 45))), .symS 29⟩,
    ⟨.bin .add (.c (.symS 29)) (.c (.symS 28)), .symS 30⟩,
    ⟨.bin .quo (.c (.sym .u32 43)) (.c (.int .u32 16)), .sym .u32 46⟩,
    ⟨.bin .rem (.c (.sym .u32 46)) (.c (.int .u32 16)), .sym .u32 46⟩,
    ⟨.bin .add (.c (.sym .u32 46)) (.c (.int .u32 1)), .sym .u32 47⟩,
    ⟨.slcStr (.c (.str [48, 49, 50, 51, 52, 53, 54, 55, 56, 57, 65, 66, 67, 68, 69, 70])) (some (.c (.sym .u32 46))) (some (.c (.sym .u32 47))), .symS 31⟩,
    ⟨.bin .add (.c (.symS 31)) (.c (.symS 30)), .symS 32⟩,
    ⟨.bin .quo (.c (.sym .u32 46)) (.c (.int .u32 16)), .int .u32 0⟩,
    ⟨.bin .add (.c (.str [48])) (.c (.symS 32)), .symS 33⟩,
    ⟨.bin .add (.c (.symS 33)) (.c (.str [72])), .symS 1⟩]
    (⟨(Eq.trans (b := some (.int .u32 (IntKind.u32.wrap (b : Int)))) (by kernel_rfl) (f_int (p := (IntKind.u32.wrap (b : Int))) (q := (((qn b 0 : Nat) : Int) : Int)) (by simp only [IntKind.wrap_i64, IntKind.wrap_i32, IntKind.wrap_u64, IntKind.wrap_u32, Int.tdiv_one, Int.tmod_one] <;> omega))), ⟨(Eq.trans (b := some (.int .u32 (Int.tmod (((qn b 0 : Nat) : Int) : Int) (16 : Int)))) (by kernel_rfl) (f_int (p := (Int.tmod (((qn b 0 : Nat) : Int) : Int) (16 : Int))) (q := (((qn b 0 % 16 : Nat) : Int) : Int)) (by rw [tmn] <;> omega))), ⟨(Eq.trans (b := some (.int .u32 (IntKind.u32.wrap ((((qn b 0 % 16 : Nat) : Int) : Int) + (1 : Int))))) (by kernel_rfl) (f_int (p := (IntKind.u32.wrap ((((qn b 0 % 16 : Nat) : Int) : Int) + (1 : Int)))) (q := (((qn b 0 % 16 + 1 : Nat) : Int) : Int)) (by simp only [IntKind.wrap_i64, IntKind.wrap_i32, IntKind.wrap_u64, IntKind.wrap_u32, Int.tdiv_one, Int.tmod_one] <;> omega))), ⟨(Eq.trans (b := pureB id' (.slcStr (.c (.str [48, 49, 50, 51, 52, 53, 54, 55, 56, 57, 65, 66, 67, 68, 69, 70])) (some (.c (.int .u32 ((qn b 0 % 16 : Nat) : Int)))) (some (.c (.int .u32 ((qn b 0 % 16 + 1 : Nat) : Int)))))) (by kernel_rfl) (f_hex (n := qn b 0 % 16) (Nat.mod_lt _ (by decide)) (by omega) (by omega) (l := [dg b 0]) rfl) : _ ), ⟨by kernel_rfl, ⟨(Eq.trans (b := some (.int .u32 (IntKind.u32.wrap (Int.tdiv (((qn b 0 : Nat) : Int) : Int) (16 : Int))))) (by kernel_rfl) (f_int (p := (IntKind.u32.wrap (Int.tdiv (((qn b 0 : Nat) : Int) : Int) (16 : Int)))) (q := (((qn b 1 : Nat) : Int) : Int)) (by rw [tdn, IntKind.wrap_u32] <;> omega))), ⟨(Eq.trans (b := some (.int .u32 (Int.tmod (((qn b 1 : Nat) : Int) : Int) (16 : Int)))) (by kernel_rfl) (f_int (p := (Int.tmod (((qn b 1 : Nat) : Int) : Int) (16 : Int))) (q := (((qn b 1 % 16 : Nat) : Int) : Int)) (by rw [tmn] <;> omega))), ⟨(Eq.trans (b := some (.int .u32 (IntKind.u32.wrap ((((qn b 1 % 16 : Nat) : Int) : Int) + (1 : Int))))) (by kernel_rfl) (f_int (p := (IntKind.u32.wrap ((((qn b 1 % 16 : Nat) : Int) : Int) + (1 : Int)))) (q := (((qn b 1 % 16 + 1 : Nat) : Int) : Int)) (by simp only [IntKind.wrap_i64, IntKind.wrap_i32, IntKind.wrap_u64, IntKind.wrap_u32, Int.tdiv_one, Int.tmod_one] <;> omega))), ⟨(Eq.trans (b := pureB id' (.slcStr (.c (.str [48, 49, 50, 51, 52, 53, 54, 55, 56, 57, 65, 66, 67, 68, 69, 70])) (some (.c (.int .u32 ((qn b 1 % 16 : Nat) : Int)))) (some (.c (.int .u32 ((qn b 1 % 16 + 1 : Nat) : Int)))))) (by kernel_rfl) (f_hex (n := qn b 1 % 16) (Nat.mod_lt _ (by decide)) (by omega) (by omega) (l := [dg b 1]) rfl) : _ ), ⟨by kernel_rfl, ⟨(Eq.trans (b := some (.int .u32 (IntKind.u32.wrap (Int.tdiv (((qn b 1 : Nat) : Int) : Int) (16 : Int))))) (by kernel_rfl) (f_int (p := (IntKind.u32.wrap (Int.tdiv (((qn b 1 : Nat) : Int) : Int) (16 : Int)))) (q := (((qn b 2 : Nat) : Int) : Int)) (by rw [tdn, IntKind.wrap_u32] <;> omega))), ⟨(Eq.trans (b := some (.int .u32 (Int.tmod (((qn b 2 : Nat) : Int) : Int) (16 : Int)))) (by kernel_rfl) (f_int (p := (Int.tmod (((qn b 2 : Nat) : Int) : Int) (16 : Int))) (q := (((qn b 2 % 16 : Nat) : Int) : Int)) (by rw [tmn] <;> omega))), ⟨(Eq.trans (b := some (.int .u32 (IntKind.u32.wrap ((((qn b 2 % 16 : Nat) : Int) : Int) + (1 : Int))))) (by kernel_rfl) (f_int (p := (IntKind.u32.wrap ((((qn b 2 % 16 : Nat) : Int) : Int) + (1 : Int)))) (q := (((qn b 2 % 16 + 1 : Nat) : Int) : Int)) (by simp only [IntKind.wrap_i64, IntKind.wrap_i32, IntKind.wrap_u64, IntKind.wrap_u32, Int.tdiv_one, Int.tmod_one] <;> omega))), ⟨(Eq.trans (b := pureB id' (.slcStr (.c (.str [48, 49, 50, 51, 52, 53, 54, 55, 56, 57, 65, 66, 67, 68, 69, 70])) (some (.c (.int .u32 ((qn b 2 % 16 : Nat) : Int)))) (some (.c (.int .u32 ((qn b 2 % 16 + 1 : Nat) : Int)))))) (by kernel_rfl) (f_hex (n := qn b 2 % 16) (Nat.mod_lt _ (by decide)) (by omega) (by omega) (l := [dg b 2]) rfl) : _ ), ⟨by kernel_rfl, ⟨(Eq.trans (b := some (.int .u32 (IntKind.u32.wrap (Int.tdiv (((qn b 2 : Nat) : Int) : Int) (16 : Int))))) (by kernel_rfl) (f_int (p := (IntKind.u32.wrap (Int.tdiv (((qn b 2 : Nat) : Int) : Int) (16 : Int)))) (q := (((qn b 3 : Nat) : Int) : Int)) (by rw [tdn, IntKind.wrap_u32] <;> omega))), ⟨(Eq.trans (b := some (.int .u32 (Int.tmod (((qn b 3 : Nat) : Int) : Int) (16 : Int)))) (by kernel_rfl) (f_int (p := (Int.tmod (((qn b 3 : Nat) : Int) : Int) (16 : Int))) (q := (((qn b 3 % 16 : Nat) : Int) : Int)) (by rw [tmn] <;> omega))), ⟨(Eq.trans (b := some (.int .u32 (IntKind.u32.wrap ((((qn b 3 % 16 : Nat) : Int) : Int) + (1 : Int))))) (by kernel_rfl) (f_int (p := (IntKind.u32.wrap ((((qn b 3 % 16 : Nat) : Int) : Int) + (1 : Int)))) (q := (((qn b 3 % 16 + 1 : Nat) : Int) : Int)) (by simp only [IntKind.wrap_i64, IntKind.wrap_i32, IntKind.wrap_u64, IntKind.wrap_u32, Int.tdiv_one, Int.tmod_one] <;> omega))), ⟨(Eq.trans (b := pureB id' (.slcStr (.c (.str [48, 49, 50, 51, 52, 53, 54, 55, 56, 57, 65, 66, 67, 68, 69, 70])) (some (.c (.int .u32 ((qn b 3 % 16 : Nat) : Int)))) (some (.c (.int .u32 ((qn b 3 % 16 + 1 : Nat) : Int)))))) (by kernel_rfl) (f_hex (n := qn b 3 % 16) (Nat.mod_lt _ (by decide)) (by omega) (by omega) (l := [dg b 3]) rfl) : _ ), ⟨by kernel_rfl, ⟨(Eq.trans (b := some (.int .u32 (IntKind.u32.wrap (Int.tdiv (((qn b 3 : Nat) : Int) : Int) (16 : Int))))) (by kernel_rfl) (f_int (p := (IntKind.u32.wrap (Int.tdiv (((qn b 3 : Nat) : Int) : Int) (16 : Int)))) (q := (((qn b 4 : Nat) : Int) : Int)) (by rw [tdn, IntKind.wrap_u32] <;> omega))), ⟨(Eq.trans (b := some (.int .u32 (Int.tmod (((qn b 4 : Nat) : Int) : Int) (16 : Int)))) (by kernel_rfl) (f_int (p := (Int.tmod (((qn b 4 : Nat) : Int) : Int) (16 : Int))) (q := (((qn b 4 % 16 : Nat) : Int) : Int)) (by rw [tmn] <;> omega))), ⟨(Eq.trans (b := some (.int .u32 (IntKind.u32.wrap ((((qn b 4 % 16 : Nat) : Int) : Int) + (1 : Int))))) (by kernel_rfl) (f_int (p := (IntKind.u32.wrap ((((qn b 4 % 16 : Nat) : Int) : Int) + (1 : Int)))) (q := (((qn b 4 % 16 + 1 : Nat) : Int) : Int)) (by simp only [IntKind.wrap_i64, IntKind.wrap_i32, IntKind.wrap_u64, IntKind.wrap_u32, Int.tdiv_one, Int.tmod_one] <;> omega))), ⟨(Eq.trans (b := pureB id' (.slcStr (.c (.str [48, 49, 50, 51, 52, 53, 54, 55, 56, 57, 65, 66, 67, 68, 69, 70])) (some (.c (.int .u32 ((qn b 4 % 16 : Nat) : Int)))) (some (.c (.int .u32 ((qn b 4 % 16 + 1 : Nat) : Int)))))) (by kernel_rfl) (f_hex (n := qn b 4 % 16) (Nat.mod_lt _ (by decide)) (by omega) (by omega) (l := [dg b 4]) rfl) : _ ), ⟨by kernel_rfl, ⟨(Eq.trans (b := some (.int .u32 (IntKind.u32.wrap (Int.tdiv (((qn b 4 : Nat) : Int) : Int) (16 : Int))))) (by kernel_rfl) (f_int (p := (IntKind.u32.wrap (Int.tdiv (((qn b 4 : Nat) : Int) : Int) (16 : Int)))) (q := (((qn b 5 : Nat) : Int) : Int)) (by rw [tdn, IntKind.wrap_u32] <;> omega))), ⟨(Eq.trans (b := some (.int .u32 (Int.tmod (((qn b 5 : Nat) : Int) : Int) (16 : Int)))) (by kernel_rfl) (f_int (p := (Int.tmod (((qn b 5 : Nat) : Int) : Int) (16 : Int))) (q := (((qn b 5 % 16 : Nat) : Int) : Int)) (by rw [tmn] <;> omega))), ⟨(Eq.trans (b := some (.int .u32 (IntKind.u32.wrap ((((qn b 5 % 16 : Nat) : Int) : Int) + (1 : Int))))) (by kernel_rfl) (f_int (p := (IntKind.u32.wrap ((((qn b 5 % 16 : Nat) : Int) : Int) + (1 : Int)))) (q := (((qn b 5 % 16 + 1 : Nat) : Int) : Int)) (by simp only [IntKind.wrap_i64, IntKind.wrap_i32, IntKind.wrap_u64, IntKind.wrap_u32, Int.tdiv_one, Int.tmod_one] <;> omega))), ⟨(Eq.trans (b := pureB id' (.slcStr (.c (.str [48, 49, 50, 51, 52, 53, 54, 55, 56, 57, 65, 66, 67, 68, 69, 70])) (some (.c (.int .u32 ((qn b 5 % 16 : Nat) : Int)))) (some (.c (.int .u32 ((qn b 5 % 16 + 1 : Nat) : Int)))))) (by kernel_rfl) (f_hex (n := qn b 5 % 16) (Nat.mod_lt _ (by decide)) (by omega) (by omega) (l := [dg b 5]) rfl) : _ ), ⟨by kernel_rfl, ⟨(Eq.trans (b := some (.int .u32 (IntKind.u32.wrap (Int.tdiv (((qn b 5 : Nat) : Int) : Int) (16 : Int))))) (by kernel_rfl) (f_int (p := (IntKind.u32.wrap (Int.tdiv (((qn b 5 : Nat) : Int) : Int) (16 : Int)))) (q := (((qn b 6 : Nat) : Int) : Int)) (by rw [tdn, IntKind.wrap_u32] <;> omega))), ⟨(Eq.trans (b := some (.int .u32 (Int.tmod (((qn b 6 : Nat) : Int) : Int) (16 : Int)))) (by kernel_rfl) (f_int (p := (Int.tmod (((qn b 6 : Nat) : Int) : Int) (16 : Int))) (q := (((qn b 6 % 16 : Nat) : Int) : Int)) (by rw [tmn] <;> omega))), ⟨(Eq.trans (b := some (.int .u32 (IntKind.u32.wrap ((((qn b 6 % 16 : Nat) : Int) : Int) + (1 : Int))))) (by kernel_rfl) (f_int (p := (IntKind.u32.wrap ((((qn b 6 % 16 : Nat) : Int) : Int) + (1 : Int)))) (q := (((qn b 6 % 16 + 1 : Nat) : Int) : Int)) (by simp only [IntKind.wrap_i64, IntKind.wrap_i32, IntKind.wrap_u64, IntKind.wrap_u32, Int.tdiv_one, Int.tmod_one] <;> omega))), ⟨(Eq.trans (b := pureB id' (.slcStr (.c (.str [48, 49, 50, 51, 52, 53, 54, 55, 56, 57, 65, 66, 67, 68, 69, 70])) (some (.c (.int .u32 ((qn b 6 % 16 : Nat) : Int)))) (some (.c (.int .u32 ((qn b 6 % 16 + 1 : Nat) : Int)))))) (by kernel_rfl) (f_hex (n := qn b 6 % 16) (Nat.mod_lt _ (by decide)) (by omega) (by omega) (l := [dg b 6]) rfl) : _ ), ⟨by kernel_rfl, ⟨(Eq.trans (b := some (.int .u32 (IntKind.u32.wrap (Int.tdiv (((qn b 6 : Nat) : Int) : Int) (16 : Int))))) (by kernel_rfl) (f_int (p := (IntKind.u32.wrap (Int.tdiv (((qn b 6 : Nat) : Int) : Int) (16 : Int)))) (q := (((qn b 7 : Nat) : Int) : Int)) (by rw [tdn, IntKind.wrap_u32] <;> omega))), ⟨(Eq.trans (b := some (.int .u32 (Int.tmod (((qn b 7 : Nat) : Int) : Int) (16 : Int)))) (by kernel_rfl) (f_int (p := (Int.tmod (((qn b 7 : Nat) : Int) : Int) (16 : Int))) (q := (((qn b 7 : Nat) : Int) : Int)) (by rw [tmn] <;> omega))), ⟨(Eq.trans (b := some (.int .u32 (IntKind.u32.wrap ((((qn b 7 : Nat) : Int) : Int) + (1 : Int))))) (by kernel_rfl) (f_int (p := (IntKind.u32.wrap ((((qn b 7 : Nat) : Int) : Int) + (1 : Int)))) (q := (((qn b 7 % 16 + 1 : Nat) : Int) : Int)) (by simp only [IntKind.wrap_i64, IntKind.wrap_i32, IntKind.wrap_u64, IntKind.wrap_u32, Int.tdiv_one, Int.tmod_one] <;> omega))), ⟨(Eq.trans (b := pureB id' (.slcStr (.c (.str [48, 49, 50, 51, 52, 53, 54, 55, 56, 57, 65, 66, 67, 68, 69, 70])) (some (.c (.int .u32 ((qn b 7 : Nat) : Int)))) (some (.c (.int .u32 ((qn b 7 % 16 + 1 : Nat) : Int)))))) (by kernel_rfl) (f_hex (n := qn b 7 % 16) (Nat.mod_lt _ (by decide)) (by omega) (by omega) (l := [dg b 7]) rfl) : _ ), ⟨by kernel_rfl, ⟨(Eq.trans (b := some (.int .u32 (IntKind.u32.wrap (Int.tdiv (((qn b 7 : Nat) : Int) : Int) (16 : Int))))) (by kernel_rfl) (f_int (p := (IntKind.u32.wrap (Int.tdiv (((qn b 7 : Nat) : Int) : Int) (16 : Int)))) (q := (0 : Int)) (by rw [tdn, IntKind.wrap_u32] <;> omega))), ⟨by kernel_rfl, ⟨by kernel_rfl, trivial⟩⟩⟩⟩⟩⟩⟩⟩⟩⟩⟩⟩⟩⟩⟩⟩⟩⟩⟩⟩⟩⟩⟩⟩⟩⟩⟩⟩⟩⟩⟩⟩⟩⟩⟩⟩⟩⟩⟩⟩⟩⟩⟩)
    []
    trivial (by kernel_rfl) (by kernel_rfl) (by kernel_rfl)
def o3 : Ob := (69, [.symS 34, .str [32, 9, 10, 13]], .ret (.symS 34))
theorem q3 (a b : Int) (H : Hy a b) : Ans (i0 a b) (s0 a b) o3 := by
  have H0 := H
  exact ans [⟨.bin .eql (.c (.symS 34)) (.c (.str [])), .bool false⟩,
    ⟨.len true (.c (.symS 34)), .int .i64 51⟩,
    ⟨.idxStr (.c (.symS 34)) (.c (.int .i64 0)), .int .u8 77⟩]
    (⟨by kernel_rfl, ⟨by kernel_rfl, ⟨by kernel_rfl, trivial⟩⟩⟩)
    []
    trivial (by kernel_rfl) (by kernel_rfl) (by kernel_rfl)
def o4 : Ob := (70, [.symS 34, .str [40, 42]], .ret (.bool false))
theorem q4 (a b : Int) (H : Hy a b) : Ans (i0 a b) (s0 a b) o4 := by
  have H0 := H
  exact ans [⟨.len true (.c (.symS 34)), .int .i64 51⟩,
    ⟨.slcStr (.c (.symS 34)) none (some (.c (.int .i64 2))), .str [77, 79]⟩]
    (⟨by kernel_rfl, ⟨by kernel_rfl, trivial⟩⟩)
    []
    trivial (by kernel_rfl) (by kernel_rfl) (by kernel_rfl)
def o5 : Ob := (129, [.symS 34], .ret (.str [77, 79, 68, 85, 76, 69]))
theorem q5 (a b : Int) (H : Hy a b) : Ans (i0 a b) (s0 a b) o5 := by
  show Ans (i0 a b) (s0 a b) (129, [.symS 34], .ret (.str [77, 79, 68, 85, 76, 69]))
  letI := bare (i0 a b) (s0 a b)
  exact word_ob [77, 79, 68, 85, 76, 69] [32, 77, 59, 32, 67, 79, 78, 83, 84, 32, 99, 32, 61, 32, 48, (dg a 7), (dg a 6), (dg a 5), (dg a 4), (dg a 3), (dg a 2), (dg a 1), (dg a 0), 72, 32, 43, 32, 48, (dg b 7), (dg b 6), (dg b 5), (dg b 4), (dg b 3), (dg b 2), (dg b 1), (dg b 0), 72, 59, 32, 69, 78, 68, 32, 77, 46] (by kernel_rfl) (by kernel_rfl) rfl (al_all (by kernel_rfl)) (nal_ok (by kernel_rfl))
def o6 : Ob := (73, [.symS 34], .ret (.tup [.agg [.int .i64 2, .str [77, 79, 68, 85, 76, 69], .int .i64 0, .int .i64 0], .int .i64 6, .int .i64 0]))
theorem q6 (a b : Int) (H : Hy a b) : Ans (i0 a b) (s0 a b) o6 := by
  have H0 := H
  exact ans [⟨.idxStr (.c (.symS 34)) (.c (.int .i64 0)), .int .u8 77⟩]
    (⟨by kernel_rfl, trivial⟩)
    [o5]
    ⟨q5 a b H0, trivial⟩ (by kernel_rfl) (by kernel_rfl) (by kernel_rfl)
def o7 : Ob := (69, [.symS 45, .str [32, 9, 10, 13]], .ret (.symS 46))
theorem q7 (a b : Int) (H : Hy a b) : Ans (i0 a b) (s0 a b) o7 := by
  have H0 := H
  exact ans [⟨.bin .eql (.c (.symS 45)) (.c (.str [])), .bool false⟩,
    ⟨.len true (.c (.symS 45)), .int .i64 45⟩,
    ⟨.idxStr (.c (.symS 45)) (.c (.int .i64 0)), .int .u8 32⟩,
    ⟨.slcStr (.c (.symS 45)) (some (.c (.int .i64 1))) none, .symS 46⟩,
    ⟨.len true (.c (.symS 46)), .int .i64 44⟩,
    ⟨.idxStr (.c (.symS 46)) (.c (.int .i64 0)), .int .u8 77⟩]
    (⟨by kernel_rfl, ⟨by kernel_rfl, ⟨by kernel_rfl, ⟨by kernel_rfl, ⟨by kernel_rfl, ⟨by kernel_rfl, trivial⟩⟩⟩⟩⟩⟩)
    []
    trivial (by kernel_rfl) (by kernel_rfl) (by kernel_rfl)
def o8 : Ob := (70, [.symS 46, .str [40, 42]], .ret (.bool false))
theorem q8 (a b : Int) (H : Hy a b) : Ans (i0 a b) (s0 a b) o8 := by
  have H0 := H
  exact ans [⟨.len true (.c (.symS 46)), .int .i64 44⟩,
    ⟨.slcStr (.c (.symS 46)) none (some (.c (.int .i64 2))), .str [77, 59]⟩]
    (⟨by kernel_rfl, ⟨by kernel_rfl, trivial⟩⟩)
    []
    trivial (by kernel_rfl) (by kernel_rfl) (by kernel_rfl)
def o9 : Ob := (129, [.symS 46], .ret (.str [77]))
theorem q9 (a b : Int) (H : Hy a b) : Ans (i0 a b) (s0 a b) o9 := by
  show Ans (i0 a b) (s0 a b) (129, [.symS 46], .ret (.str [77]))
  letI := bare (i0 a b) (s0 a b)
  exact word_ob [77] [59, 32, 67, 79, 78, 83, 84, 32, 99, 32, 61, 32, 48, (dg a 7), (dg a 6), (dg a 5), (dg a 4), (dg a 3), (dg a 2), (dg a 1), (dg a 0), 72, 32, 43, 32, 48, (dg b 7), (dg b 6), (dg b 5), (dg b 4), (dg b 3), (dg b 2), (dg b 1), (dg b 0), 72, 59, 32, 69, 78, 68, 32, 77, 46] (by kernel_rfl) (by kernel_rfl) rfl (al_all (by kernel_rfl)) (nal_ok (by kernel_rfl))
def o10 : Ob := (73, [.symS 46], .ret (.tup [.agg [.int .i64 1, .str [77], .int .i64 0, .int .i64 0], .int .i64 1, .int .i64 0]))
theorem q10 (a b : Int) (H : Hy a b) : Ans (i0 a b) (s0 a b) o10 := by
  have H0 := H
  exact ans [⟨.idxStr (.c (.symS 46)) (.c (.int .i64 0)), .int .u8 77⟩]
    (⟨by kernel_rfl, trivial⟩)
    [o9]
    ⟨q9 a b H0, trivial⟩ (by kernel_rfl) (by kernel_rfl) (by kernel_rfl)
def o11 : Ob := (69, [.symS 47, .str [32, 9, 10, 13]], .ret (.symS 47))
theorem q11 (a b : Int) (H : Hy a b) : Ans (i0 a b) (s0 a b) o11 := by
  have H0 := H
  exact ans [⟨.bin .eql (.c (.symS 47)) (.c (.str [])), .bool false⟩,
    ⟨.len true (.c (.symS 47)), .int .i64 43⟩,
    ⟨.idxStr (.c (.symS 47)) (.c (.int .i64 0)), .int .u8 59⟩]
    (⟨by kernel_rfl, ⟨by kernel_rfl, ⟨by kernel_rfl, trivial⟩⟩⟩)
    []
    trivial (by kernel_rfl) (by kernel_rfl) (by kernel_rfl)
def o12 : Ob := (70, [.symS 47, .str [40, 42]], .ret (.bool false))
theorem q12 (a b : Int) (H : Hy a b) : Ans (i0 a b) (s0 a b) o12 := by
  have H0 := H
  exact ans [⟨.len true (.c (.symS 47)), .int .i64 43⟩,
    ⟨.slcStr (.c (.symS 47)) none (some (.c (.int .i64 2))), .str [59, 32]⟩]
    (⟨by kernel_rfl, ⟨by kernel_rfl, trivial⟩⟩)
    []
    trivial (by kernel_rfl) (by kernel_rfl) (by kernel_rfl)
def o13 : Ob := (129, [.symS 47], .ret (.str []))
theorem q13 (a b : Int) (H : Hy a b) : Ans (i0 a b) (s0 a b) o13 := by
  show Ans (i0 a b) (s0 a b) (129, [.symS 47], .ret (.str []))
  letI := bare (i0 a b) (s0 a b)
  exact word_ob [] [59, 32, 67, 79, 78, 83, 84, 32, 99, 32, 61, 32, 48, (dg a 7), (dg a 6), (dg a 5), (dg a 4), (dg a 3), (dg a 2), (dg a 1), (dg a 0), 72, 32, 43, 32, 48, (dg b 7), (dg b 6), (dg b 5), (dg b 4), (dg b 3), (dg b 2), (dg b 1), (dg b 0), 72, 59, 32, 69, 78, 68, 32, 77, 46] (by kernel_rfl) (by kernel_rfl) rfl (al_all (by kernel_rfl)) (nal_ok (by kernel_rfl))
def o14 : Ob := (224, [.str [43, 45, 42, 47, 126, 38, 46, 44, 59, 124, 40, 41, 91, 93, 123, 125, 58, 94, 61, 35, 60, 62], .int .u8 59], .ret (.int .i64 8))
theorem q14 (a b : Int) (H : Hy a b) : Ans (i0 a b) (s0 a b) o14 := by
  show Ans (i0 a b) (s0 a b) (224, [.str [43, 45, 42, 47, 126, 38, 46, 44, 59, 124, 40, 41, 91, 93, 123, 125, 58, 94, 61, 35, 60, 62], .int .u8 59], .ret (.int .i64 8))
  letI := bare (i0 a b) (s0 a b)
  exact index_ob _ _ _ (by kernel_rfl)
def o15 : Ob := (73, [.symS 47], .ret (.tup [.agg [.int .i64 6, .str [59], .int .i64 0, .int .i64 0], .int .i64 1, .int .i64 0]))
theorem q15 (a b : Int) (H : Hy a b) : Ans (i0 a b) (s0 a b) o15 := by
  have H0 := H
  exact ans [⟨.idxStr (.c (.symS 47)) (.c (.int .i64 0)), .int .u8 59⟩,
    ⟨.len true (.c (.symS 47)), .int .i64 43⟩,
    ⟨.slcStr (.c (.symS 47)) none (some (.c (.int .i64 2))), .str [59, 32]⟩,
    ⟨.slcStr (.c (.symS 47)) none (some (.c (.int .i64 1))), .str [59]⟩]
    (⟨by kernel_rfl, ⟨by kernel_rfl, ⟨by kernel_rfl, ⟨by kernel_rfl, trivial⟩⟩⟩⟩)
    [o13,
    o14]
    ⟨q13 a b H0, ⟨q14 a b H0, trivial⟩⟩ (by kernel_rfl) (by kernel_rfl) (by kernel_rfl)
def o16 : Ob := (69, [.symS 48, .str [32, 9, 10, 13]], .ret (.symS 49))
theorem q16 (a b : Int) (H : Hy a b) : Ans (i0 a b) (s0 a b) o16 := by
  have H0 := H
  exact ans [⟨.bin .eql (.c (.symS 48)) (.c (.str [])), .bool false⟩,
    ⟨.len true (.c (.symS 48)), .int .i64 42⟩,
    ⟨.idxStr (.c (.symS 48)) (.c (.int .i64 0)), .int .u8 32⟩,
    ⟨.slcStr (.c (.symS 48)) (some (.c (.int .i64 1))) none, .symS 49⟩,
    ⟨.len true (.c (.symS 49)), .int .i64 41⟩,
    ⟨.idxStr (.c (.symS 49)) (.c (.int .i64 0)), .int .u8 67⟩]
    (⟨by kernel_rfl, ⟨by kernel_rfl, ⟨by kernel_rfl, ⟨by kernel_rfl, ⟨by kernel_rfl, ⟨by kernel_rfl, trivial⟩⟩⟩⟩⟩⟩)
    []
    trivial (by kernel_rfl) (by kernel_rfl) (by kernel_rfl)
def o17 : Ob := (70, [.symS 49, .str [40, 42]], .ret (.bool false))
theorem q17 (a b : Int) (H : Hy a b) : Ans (i0 a b) (s0 a b) o17 := by
  have H0 := H
  exact ans [⟨.len true (.c (.symS 49)), .int .i64 41⟩,
    ⟨.slcStr (.c (.symS 49)) none (some (.c (.int .i64 2))), .str [67, 79]⟩]
    (⟨by kernel_rfl, ⟨by kernel_rfl, trivial⟩⟩)
    []
    trivial (by kernel_rfl) (by kernel_rfl) (by kernel_rfl)
def o18 : Ob := (129, [.symS 49], .ret (.str [67, 79, 78, 83, 84]))
theorem q18 (a b : Int) (H : Hy a b) : Ans (i0 a b) (s0 a b) o18 := by
  show Ans (i0 a b) (s0 a b) (129, [.symS 49], .ret (.str [67, 79, 78, 83, 84]))
  letI := bare (i0 a b) (s0 a b)
  exact word_ob [67, 79, 78, 83, 84] [32, 99, 32, 61, 32, 48, (dg a 7), (dg a 6), (dg a 5), (dg a 4), (dg a 3), (dg a 2), (dg a 1), (dg a 0), 72, 32, 43, 32, 48, (dg b 7), (dg b 6), (dg b 5), (dg b 4), (dg b 3), (dg b 2), (dg b 1), (dg b 0), 72, 59, 32, 69, 78, 68, 32, 77, 46] (by kernel_rfl) (by kernel_rfl) rfl (al_all (by kernel_rfl)) (nal_ok (by kernel_rfl))
def o19 : Ob := (73, [.symS 49], .ret (.tup [.agg [.int .i64 2, .str [67, 79, 78, 83, 84], .int .i64 0, .int .i64 0], .int .i64 5, .int .i64 0]))
theorem q19 (a b : Int) (H : Hy a b) : Ans (i0 a b) (s0 a b) o19 := by
  have H0 := H
  exact ans [⟨.idxStr (.c (.symS 49)) (.c (.int .i64 0)), .int .u8 67⟩]
    (⟨by kernel_rfl, trivial⟩)
    [o18]
    ⟨q18 a b H0, trivial⟩ (by kernel_rfl) (by kernel_rfl) (by kernel_rfl)
def o20 : Ob := (69, [.symS 50, .str [32, 9, 10, 13]], .ret (.symS 51))
theorem q20 (a b : Int) (H : Hy a b) : Ans (i0 a b) (s0 a b) o20 := by
  have H0 := H
  exact ans [⟨.bin .eql (.c (.symS 50)) (.c (.str [])), .bool false⟩,
    ⟨.len true (.c (.symS 50)), .int .i64 36⟩,
    ⟨.idxStr (.c (.symS 50)) (.c (.int .i64 0)), .int .u8 32⟩,
    ⟨.slcStr (.c (.symS 50)) (some (.c (.int .i64 1))) none, .symS 51⟩,
    ⟨.len true (.c (.symS 51)), .int .i64 35⟩,
    ⟨.idxStr (.c (.symS 51)) (.c (.int .i64 0)), .int .u8 99⟩]
    (⟨by kernel_rfl, ⟨by kernel_rfl, ⟨by kernel_rfl, ⟨by kernel_rfl, ⟨by kernel_rfl, ⟨by kernel_rfl, trivial⟩⟩⟩⟩⟩⟩)
    []
    trivial (by kernel_rfl) (by kernel_rfl) (by kernel_rfl)
def o21 : Ob := (70, [.symS 51, .str [40, 42]], .ret (.bool false))
theorem q21 (a b : Int) (H : Hy a b) : Ans (i0 a b) (s0 a b) o21 := by
  have H0 := H
  exact ans [⟨.len true (.c (.symS 51)), .int .i64 35⟩,
    ⟨.slcStr (.c (.symS 51)) none (some (.c (.int .i64 2))), .str [99, 32]⟩]
    (⟨by kernel_rfl, ⟨by kernel_rfl, trivial⟩⟩)
    []
    trivial (by kernel_rfl) (by kernel_rfl) (by kernel_rfl)
def o22 : Ob := (129, [.symS 51], .ret (.str [99]))
theorem q22 (a b : Int) (H : Hy a b) : Ans (i0 a b) (s0 a b) o22 := by
  show Ans (i0 a b) (s0 a b) (129, [.symS 51], .ret (.str [99]))
  letI := bare (i0 a b) (s0 a b)
  exact word_ob [99] [32, 61, 32, 48, (dg a 7), (dg a 6), (dg a 5), (dg a 4), (dg a 3), (dg a 2), (dg a 1), (dg a 0), 72, 32, 43, 32, 48, (dg b 7), (dg b 6), (dg b 5), (dg b 4), (dg b 3), (dg b 2), (dg b 1), (dg b 0), 72, 59, 32, 69, 78, 68, 32, 77, 46] (by kernel_rfl) (by kernel_rfl) rfl (al_all (by kernel_rfl)) (nal_ok (by kernel_rfl))
def o23 : Ob := (73, [.symS 51], .ret (.tup [.agg [.int .i64 1, .str [99], .int .i64 0, .int .i64 0], .int .i64 1, .int .i64 0]))
theorem q23 (a b : Int) (H : Hy a b) : Ans (i0 a b) (s0 a b) o23 := by
  have H0 := H
  exact ans [⟨.idxStr (.c (.symS 51)) (.c (.int .i64 0)), .int .u8 99⟩]
    (⟨by kernel_rfl, trivial⟩)
    [o22]
    ⟨q22 a b H0, trivial⟩ (by kernel_rfl) (by kernel_rfl) (by kernel_rfl)
def o24 : Ob := (69, [.symS 52, .str [32, 9, 10, 13]], .ret (.symS 53))
theorem q24 (a b : Int) (H : Hy a b) : Ans (i0 a b) (s0 a b) o24 := by
  have H0 := H
  exact ans [⟨.bin .eql (.c (.symS 52)) (.c (.str [])), .bool false⟩,
    ⟨.len true (.c (.symS 52)), .int .i64 34⟩,
    ⟨.idxStr (.c (.symS 52)) (.c (.int .i64 0)), .int .u8 32⟩,
    ⟨.slcStr (.c (.symS 52)) (some (.c (.int .i64 1))) none, .symS 53⟩,
    ⟨.len true (.c (.symS 53)), .int .i64 33⟩,
    ⟨.idxStr (.c (.symS 53)) (.c (.int .i64 0)), .int .u8 61⟩]
    (⟨by kernel_rfl, ⟨by kernel_rfl, ⟨by kernel_rfl, ⟨by kernel_rfl, ⟨by kernel_rfl, ⟨by kernel_rfl, trivial⟩⟩⟩⟩⟩⟩)
    []
    trivial (by kernel_rfl) (by kernel_rfl) (by kernel_rfl)
def o25 : Ob := (70, [.symS 53, .str [40, 42]], .ret (.bool false))
theorem q25 (a b : Int) (H : Hy a b) : Ans (i0 a b) (s0 a b) o25 := by
  have H0 := H
  exact ans [⟨.len true (.c (.symS 53)), .int .i64 33⟩,
    ⟨.slcStr (.c (.symS 53)) none (some (.c (.int .i64 2))), .str [61, 32]⟩]
    (⟨by kernel_rfl, ⟨by kernel_rfl, trivial⟩⟩)
    []
    trivial (by kernel_rfl) (by kernel_rfl) (by kernel_rfl)
def o26 : Ob := (129, [.symS 53], .ret (.str []))
theorem q26 (a b : Int) (H : Hy a b) : Ans (i0 a b) (s0 a b) o26 := by
  show Ans (i0 a b) (s0 a b) (129, [.symS 53], .ret (.str []))
  letI := bare (i0 a b) (s0 a b)
  exact word_ob [] [61, 32, 48, (dg a 7), (dg a 6), (dg a 5), (dg a 4), (dg a 3), (dg a 2), (dg a 1), (dg a 0), 72, 32, 43, 32, 48, (dg b 7), (dg b 6), (dg b 5), (dg b 4), (dg b 3), (dg b 2), (dg b 1), (dg b 0), 72, 59, 32, 69, 78, 68, 32, 77, 46] (by kernel_rfl) (by kernel_rfl) rfl (al_all (by kernel_rfl)) (nal_ok (by kernel_rfl))
def o27 : Ob := (224, [.str [43, 45, 42, 47, 126, 38, 46, 44, 59, 124, 40, 41, 91, 93, 123, 125, 58, 94, 61, 35, 60, 62], .int .u8 61], .ret (.int .i64 18))
theorem q27 (a b : Int) (H : Hy a b) : Ans (i0 a b) (s0 a b) o27 := by
  show Ans (i0 a b) (s0 a b) (224, [.str [43, 45, 42, 47, 126, 38, 46, 44, 59, 124, 40, 41, 91, 93, 123, 125, 58, 94, 61, 35, 60, 62], .int .u8 61], .ret (.int .i64 18))
  letI := bare (i0 a b) (s0 a b)
  exact index_ob _ _ _ (by kernel_rfl)
def o28 : Ob := (73, [.symS 53], .ret (.tup [.agg [.int .i64 6, .str [61], .int .i64 0, .int .i64 0], .int .i64 1, .int .i64 0]))
theorem q28 (a b : Int) (H : Hy a b) : Ans (i0 a b) (s0 a b) o28 := by
  have H0 := H
  exact ans [⟨.idxStr (.c (.symS 53)) (.c (.int .i64 0)), .int .u8 61⟩,
    ⟨.len true (.c (.symS 53)), .int .i64 33⟩,
    ⟨.slcStr (.c (.symS 53)) none (some (.c (.int .i64 2))), .str [61, 32]⟩,
    ⟨.slcStr (.c (.symS 53)) none (some (.c (.int .i64 1))), .str [61]⟩]
    (⟨by kernel_rfl, ⟨by kernel_rfl, ⟨by kernel_rfl, ⟨by kernel_rfl, trivial⟩⟩⟩⟩)
    [o26,
    o27]
    ⟨q26 a b H0, ⟨q27 a b H0, trivial⟩⟩ (by kernel_rfl) (by kernel_rfl) (by kernel_rfl)
def o29 : Ob := (69, [.symS 54, .str [32, 9, 10, 13]], .ret (.symS 55))
theorem q29 (a b : Int) (H : Hy a b) : Ans (i0 a b) (s0 a b) o29 := by
  have H0 := H
  exact ans [⟨.bin .eql (.c (.symS 54)) (.c (.str [])), .bool false⟩,
    ⟨.len true (.c (.symS 54)), .int .i64 32⟩,
    ⟨.idxStr (.c (.symS 54)) (.c (.int .i64 0)), .int .u8 32⟩,
    ⟨.slcStr (.c (.symS 54)) (some (.c (.int .i64 1))) none, .symS 55⟩,
    ⟨.len true (.c (.symS 55)), .int .i64 31⟩,
    ⟨.idxStr (.c (.symS 55)) (.c (.int .i64 0)), .int .u8 48⟩]
    (⟨by kernel_rfl, ⟨by kernel_rfl, ⟨by kernel_rfl, ⟨by kernel_rfl, ⟨by kernel_rfl, ⟨by kernel_rfl, trivial⟩⟩⟩⟩⟩⟩)
    []
    trivial (by kernel_rfl) (by kernel_rfl) (by kernel_rfl)
def o30 : Ob := (70, [.symS 55, .str [40, 42]], .ret (.bool false))
theorem q30 (a b : Int) (H : Hy a b) : Ans (i0 a b) (s0 a b) o30 := by
  have H0 := H
  exact ans [⟨.len true (.c (.symS 55)), .int .i64 31⟩,
    ⟨.slcStr (.c (.symS 55)) none (some (.c (.int .i64 2))), .symS 56⟩,
    ⟨.bin .eql (.c (.symS 56)) (.c (.str [40, 42])), .bool false⟩]
    (⟨by kernel_rfl, ⟨by kernel_rfl, ⟨by kernel_rfl, trivial⟩⟩⟩)
    []
    trivial (by kernel_rfl) (by kernel_rfl) (by kernel_rfl)
def o31 : Ob := (129, [.symS 55], .ret (.symS 0))
theorem q31 (a b : Int) (H : Hy a b) : Ans (i0 a b) (s0 a b) o31 := by
  show Ans (i0 a b) (s0 a b) (129, [.symS 55], .ret (.symS 0))
  letI := bare (i0 a b) (s0 a b)
  exact word_ob (dgs a ++ [72]) [32, 43, 32, 48, (dg b 7), (dg b 6), (dg b 5), (dg b 4), (dg b 3), (dg b 2), (dg b 1), (dg b 0), 72, 59, 32, 69, 78, 68, 32, 77, 46] (by kernel_rfl) (by kernel_rfl) rfl (dgs_alnum a) (nal_ok (by kernel_rfl))
def o32 : Ob := (184, [.symS 0, .str [72]], .ret (.tup [.symS 17, .bool true]))
theorem q32 (a b : Int) (H : Hy a b) : Ans (i0 a b) (s0 a b) o32 := by
  have H0 := H
  exact ans [⟨.len true (.c (.symS 0)), .int .i64 10⟩,
    ⟨.slcStr (.c (.symS 0)) (some (.c (.int .i64 9))) none, .str [72]⟩,
    ⟨.slcStr (.c (.symS 0)) none (some (.c (.int .i64 9))), .symS 17⟩]
    (⟨by kernel_rfl, ⟨by kernel_rfl, ⟨by kernel_rfl, trivial⟩⟩⟩)
    []
    trivial (by kernel_rfl) (by kernel_rfl) (by kernel_rfl)
def o33 : Ob := (215, [.symS 17, .int .i64 16, .int .i64 64], .ret (.tup [.sym .u64 48, .nili]))
theorem q33 (a b : Int) (H : Hy a b) : Ans (i0 a b) (s0 a b) o33 := by
  show Ans (i0 a b) (s0 a b) (215, [.symS 17, .int .i64 16, .int .i64 64], .ret (.tup [.sym .u64 48, .nili]))
  letI := bare (i0 a b) (s0 a b)
  exact parse_ob (dgs a) (by kernel_rfl) ((by rw [dgs_pv]; kernel_rfl : _)) rfl (by simp [dgs]) (by simp [dgs]) (dgs_hexd a)
def o34 : Ob := (186, [.symS 17], .ret (.symS 17))
theorem q34 (a b : Int) (H : Hy a b) : Ans (i0 a b) (s0 a b) o34 := by
  show Ans (i0 a b) (s0 a b) (186, [.symS 17], .ret (.symS 17))
  letI := bare (i0 a b) (s0 a b)
  exact upper_ob (dgs a) (by kernel_rfl) rfl (by simp [dgs]) (dgs_upper a)
def o35 : Ob := (133, [.symS 0], .ret (.tup [.agg [.int .i64 3, .str [], .sym .i64 50, .int .i64 0], .int .i64 0]))
theorem q35 (a b : Int) (H : Hy a b) : Ans (i0 a b) (s0 a b) o35 := by
  have H0 := H
  obtain ⟨h1, h2, h3, h4⟩ := H
  have ea := q0_lt a
  have fa : qn a 0 = (a % 4294967296).toNat := rfl
  have eb := q0_lt b
  have fb : qn b 0 = (b % 4294967296).toNat := rfl
  exact ans [⟨.bin .gtr (.c (.sym .u64 48)) (.c (.int .u64 4294967295)), .bool false⟩,
    ⟨.bin .neq (.c (.symS 17)) (.c (.symS 17)), .bool false⟩,
    ⟨.convI .i64 (.c (.sym .u64 48)), .sym .i64 49⟩,
    ⟨.convI .i32 (.c (.sym .u64 48)), .sym .i32 0⟩,
    ⟨.convI .i64 (.c (.sym .i32 0)), .sym .i64 50⟩]
    (⟨(Eq.trans (b := some (.bool (decide ((((qn a 0 : Nat) : Int) : Int) > (4294967295 : Int))))) (by kernel_rfl) (f_bool (q := false) (decide_eq_false (by omega)))), ⟨neS_self 17, ⟨(Eq.trans (b := some (.int .i64 (IntKind.i64.wrap (((qn a 0 : Nat) : Int) : Int)))) (by kernel_rfl) (f_int (p := (IntKind.i64.wrap (((qn a 0 : Nat) : Int) : Int))) (q := (((qn a 0 : Nat) : Int) : Int)) (by simp only [IntKind.wrap_i64, IntKind.wrap_i32, IntKind.wrap_u64, IntKind.wrap_u32, Int.tdiv_one, Int.tmod_one] <;> omega))), ⟨(Eq.trans (b := some (.int .i32 (IntKind.i32.wrap (((qn a 0 : Nat) : Int) : Int)))) (by kernel_rfl) (f_int (p := (IntKind.i32.wrap (((qn a 0 : Nat) : Int) : Int))) (q := (a : Int)) (by simp only [IntKind.wrap_i64, IntKind.wrap_i32, IntKind.wrap_u64, IntKind.wrap_u32, Int.tdiv_one, Int.tmod_one] <;> omega))), ⟨(Eq.trans (b := some (.int .i64 (IntKind.i64.wrap (a : Int)))) (by kernel_rfl) (f_int (p := (IntKind.i64.wrap (a : Int))) (q := (a : Int)) (by simp only [IntKind.wrap_i64, IntKind.wrap_i32, IntKind.wrap_u64, IntKind.wrap_u32, Int.tdiv_one, Int.tmod_one] <;> omega))), trivial⟩⟩⟩⟩⟩)
    [o32,
    o33,
    o34]
    ⟨q32 a b H0, ⟨q33 a b H0, ⟨q34 a b H0, trivial⟩⟩⟩ (by kernel_rfl) (by kernel_rfl) (by kernel_rfl)
def o36 : Ob := (73, [.symS 55], .ret (.tup [.agg [.int .i64 3, .str [], .sym .i64 50, .int .i64 0], .int .i64 10, .int .i64 0]))
theorem q36 (a b : Int) (H : Hy a b) : Ans (i0 a b) (s0 a b) o36 := by
  have H0 := H
  exact ans [⟨.idxStr (.c (.symS 55)) (.c (.int .i64 0)), .int .u8 48⟩,
    ⟨.len true (.c (.symS 0)), .int .i64 10⟩]
    (⟨by kernel_rfl, ⟨by kernel_rfl, trivial⟩⟩)
    [o31,
    o35]
    ⟨q31 a b H0, ⟨q35 a b H0, trivial⟩⟩ (by kernel_rfl) (by kernel_rfl) (by kernel_rfl)
def o37 : Ob := (69, [.symS 57, .str [32, 9, 10, 13]], .ret (.symS 58))
theorem q37 (a b : Int) (H : Hy a b) : Ans (i0 a b) (s0 a b) o37 := by
  have H0 := H
  exact ans [⟨.bin .eql (.c (.symS 57)) (.c (.str [])), .bool false⟩,
    ⟨.len true (.c (.symS 57)), .int .i64 21⟩,
    ⟨.idxStr (.c (.symS 57)) (.c (.int .i64 0)), .int .u8 32⟩,
    ⟨.slcStr (.c (.symS 57)) (some (.c (.int .i64 1))) none, .symS 58⟩,
    ⟨.len true (.c (.symS 58)), .int .i64 20⟩,
    ⟨.idxStr (.c (.symS 58)) (.c (.int .i64 0)), .int .u8 43⟩]
    (⟨by kernel_rfl, ⟨by kernel_rfl, ⟨by kernel_rfl, ⟨by kernel_rfl, ⟨by kernel_rfl, ⟨by kernel_rfl, trivial⟩⟩⟩⟩⟩⟩)
    []
    trivial (by kernel_rfl) (by kernel_rfl) (by kernel_rfl)
def o38 : Ob := (70, [.symS 58, .str [40, 42]], .ret (.bool false))
theorem q38 (a b : Int) (H : Hy a b) : Ans (i0 a b) (s0 a b) o38 := by
  have H0 := H
  exact ans [⟨.len true (.c (.symS 58)), .int .i64 20⟩,
    ⟨.slcStr (.c (.symS 58)) none (some (.c (.int .i64 2))), .str [43, 32]⟩]
    (⟨by kernel_rfl, ⟨by kernel_rfl, trivial⟩⟩)
    []
    trivial (by kernel_rfl) (by kernel_rfl) (by kernel_rfl)
def o39 : Ob := (129, [.symS 58], .ret (.str []))
theorem q39 (a b : Int) (H : Hy a b) : Ans (i0 a b) (s0 a b) o39 := by
  show Ans (i0 a b) (s0 a b) (129, [.symS 58], .ret (.str []))
  letI := bare (i0 a b) (s0 a b)
  exact word_ob [] [43, 32, 48, (dg b 7), (dg b 6), (dg b 5), (dg b 4), (dg b 3), (dg b 2), (dg b 1), (dg b 0), 72, 59, 32, 69, 78, 68, 32, 77, 46] (by kernel_rfl) (by kernel_rfl) rfl (al_all (by kernel_rfl)) (nal_ok (by kernel_rfl))
def o40 : Ob := (224, [.str [43, 45, 42, 47, 126, 38, 46, 44, 59, 124, 40, 41, 91, 93, 123, 125, 58, 94, 61, 35, 60, 62], .int .u8 43], .ret (.int .i64 0))
theorem q40 (a b : Int) (H : Hy a b) : Ans (i0 a b) (s0 a b) o40 := by
  show Ans (i0 a b) (s0 a b) (224, [.str [43, 45, 42, 47, 126, 38, 46, 44, 59, 124, 40, 41, 91, 93, 123, 125, 58, 94, 61, 35, 60, 62], .int .u8 43], .ret (.int .i64 0))
  letI := bare (i0 a b) (s0 a b)
  exact index_ob _ _ _ (by kernel_rfl)
def o41 : Ob := (73, [.symS 58], .ret (.tup [.agg [.int .i64 6, .str [43], .int .i64 0, .int .i64 0], .int .i64 1, .int .i64 0]))
theorem q41 (a b : Int) (H : Hy a b) : Ans (i0 a b) (s0 a b) o41 := by
  have H0 := H
  exact ans [⟨.idxStr (.c (.symS 58)) (.c (.int .i64 0)), .int .u8 43⟩,
    ⟨.len true (.c (.symS 58)), .int .i64 20⟩,
    ⟨.slcStr (.c (.symS 58)) none (some (.c (.int .i64 2))), .str [43, 32]⟩,
    ⟨.slcStr (.c (.symS 58)) none (some (.c (.int .i64 1))), .str [43]⟩]
    (⟨by kernel_rfl, ⟨by kernel_rfl, ⟨by kernel_rfl, ⟨by kernel_rfl, trivial⟩⟩⟩⟩)
    [o39,
    o40]
    ⟨q39 a b H0, ⟨q40 a b H0, trivial⟩⟩ (by kernel_rfl) (by kernel_rfl) (by kernel_rfl)
def o42 : Ob := (69, [.symS 59, .str [32, 9, 10, 13]], .ret (.symS 60))
theorem q42 (a b : Int) (H : Hy a b) : Ans (i0 a b) (s0 a b) o42 := by
  have H0 := H
  exact ans [⟨.bin .eql (.c (.symS 59)) (.c (.str [])), .bool false⟩,
    ⟨.len true (.c (.symS 59)), .int .i64 19⟩,
    ⟨.idxStr (.c (.symS 59)) (.c (.int .i64 0)), .int .u8 32⟩,
    ⟨.slcStr (.c (.symS 59)) (some (.c (.int .i64 1))) none, .symS 60⟩,
    ⟨.len true (.c (.symS 60)), .int .i64 18⟩,
    ⟨.idxStr (.c (.symS 60)) (.c (.int .i64 0)), .int .u8 48⟩]
    (⟨by kernel_rfl, ⟨by kernel_rfl, ⟨by kernel_rfl, ⟨by kernel_rfl, ⟨by kernel_rfl, ⟨by kernel_rfl, trivial⟩⟩⟩⟩⟩⟩)
    []
    trivial (by kernel_rfl) (by kernel_rfl) (by kernel_rfl)
def o43 : Ob := (70, [.symS 60, .str [40, 42]], .ret (.bool false))
theorem q43 (a b : Int) (H : Hy a b) : Ans (i0 a b) (s0 a b) o43 := by
  have H0 := H
  exact ans [⟨.len true (.c (.symS 60)), .int .i64 18⟩,
    ⟨.slcStr (.c (.symS 60)) none (some (.c (.int .i64 2))), .symS 61⟩,
    ⟨.bin .eql (.c (.symS 61)) (.c (.str [40, 42])), .bool false⟩]
    (⟨by kernel_rfl, ⟨by kernel_rfl, ⟨by kernel_rfl, trivial⟩⟩⟩)
    []
    trivial (by kernel_rfl) (by kernel_rfl) (by kernel_rfl)
def o44 : Ob := (129, [.symS 60], .ret (.symS 1))
theorem q44 (a b : Int) (H : Hy a b) : Ans (i0 a b) (s0 a b) o44 := by
  show Ans (i0 a b) (s0 a b) (129, [.symS 60], .ret (.symS 1))
  letI := bare (i0 a b) (s0 a b)
  exact word_ob (dgs b ++ [72]) [59, 32, 69, 78, 68, 32, 77, 46] (by kernel_rfl) (by kernel_rfl) rfl (dgs_alnum b) (nal_ok (by kernel_rfl))
def o45 : Ob := (184, [.symS 1, .str [72]], .ret (.tup [.symS 33, .bool true]))
theorem q45 (a b : Int) (H : Hy a b) : Ans (i0 a b) (s0 a b) o45 := by
  have H0 := H
  exact ans [⟨.len true (.c (.symS 1)), .int .i64 10⟩,
    ⟨.slcStr (.c (.symS 1)) (some (.c (.int .i64 9))) none, .str [72]⟩,
    ⟨.slcStr (.c (.symS 1)) none (some (.c (.int .i64 9))), .symS 33⟩]
    (⟨by kernel_rfl, ⟨by kernel_rfl, ⟨by kernel_rfl, trivial⟩⟩⟩)
    []
    trivial (by kernel_rfl) (by kernel_rfl) (by kernel_rfl)
def o46 : Ob := (215, [.symS 33, .int .i64 16, .int .i64 64], .ret (.tup [.sym .u64 51, .nili]))
theorem q46 (a b : Int) (H : Hy a b) : Ans (i0 a b) (s0 a b) o46 := by
  show Ans (i0 a b) (s0 a b) (215, [.symS 33, .int .i64 16, .int .i64 64], .ret (.tup [.sym .u64 51, .nili]))
  letI := bare (i0 a b) (s0 a b)
  exact parse_ob (dgs b) (by kernel_rfl) ((by rw [dgs_pv]; kernel_rfl : _)) rfl (by simp [dgs]) (by simp [dgs]) (dgs_hexd b)
def o47 : Ob := (186, [.symS 33], .ret (.symS 33))
theorem q47 (a b : Int) (H : Hy a b) : Ans (i0 a b) (s0 a b) o47 := by
  show Ans (i0 a b) (s0 a b) (186, [.symS 33], .ret (.symS 33))
  letI := bare (i0 a b) (s0 a b)
  exact upper_ob (dgs b) (by kernel_rfl) rfl (by simp [dgs]) (dgs_upper b)
def o48 : Ob := (133, [.symS 1], .ret (.tup [.agg [.int .i64 3, .str [], .sym .i64 53, .int .i64 0], .int .i64 0]))
theorem q48 (a b : Int) (H : Hy a b) : Ans (i0 a b) (s0 a b) o48 := by
  have H0 := H
  obtain ⟨h1, h2, h3, h4⟩ := H
  have ea := q0_lt a
  have fa : qn a 0 = (a % 4294967296).toNat := rfl
  have eb := q0_lt b
  have fb : qn b 0 = (b % 4294967296).toNat := rfl
  exact ans [⟨.bin .gtr (.c (.sym .u64 51)) (.c (.int .u64 4294967295)), .bool false⟩,
    ⟨.bin .neq (.c (.symS 33)) (.c (.symS 33)), .bool false⟩,
    ⟨.convI .i64 (.c (.sym .u64 51)), .sym .i64 52⟩,
    ⟨.convI .i32 (.c (.sym .u64 51)), .sym .i32 1⟩,
    ⟨.convI .i64 (.c (.sym .i32 1)), .sym .i64 53⟩]
    (⟨(Eq.trans (b := some (.bool (decide ((((qn b 0 : Nat) : Int) : Int) > (4294967295 : Int))))) (by kernel_rfl) (f_bool (q := false) (decide_eq_false (by omega)))), ⟨neS_self 33, ⟨(Eq.trans (b := some (.int .i64 (IntKind.i64.wrap (((qn b 0 : Nat) : Int) : Int)))) (by kernel_rfl) (f_int (p := (IntKind.i64.wrap (((qn b 0 : Nat) : Int) : Int))) (q := (((qn b 0 : Nat) : Int) : Int)) (by simp only [IntKind.wrap_i64, IntKind.wrap_i32, IntKind.wrap_u64, IntKind.wrap_u32, Int.tdiv_one, Int.tmod_one] <;> omega))), ⟨(Eq.trans (b := some (.int .i32 (IntKind.i32.wrap (((qn b 0 : Nat) : Int) : Int)))) (by kernel_rfl) (f_int (p := (IntKind.i32.wrap (((qn b 0 : Nat) : Int) : Int))) (q := (b : Int)) (by simp only [IntKind.wrap_i64, IntKind.wrap_i32, IntKind.wrap_u64, IntKind.wrap_u32, Int.tdiv_one, Int.tmod_one] <;> omega))), ⟨(Eq.trans (b := some (.int .i64 (IntKind.i64.wrap (b : Int)))) (by kernel_rfl) (f_int (p := (IntKind.i64.wrap (b : Int))) (q := (b : Int)) (by simp only [IntKind.wrap_i64, IntKind.wrap_i32, IntKind.wrap_u64, IntKind.wrap_u32, Int.tdiv_one, Int.tmod_one] <;> omega))), trivial⟩⟩⟩⟩⟩)
    [o45,
    o46,
    o47]
    ⟨q45 a b H0, ⟨q46 a b H0, ⟨q47 a b H0, trivial⟩⟩⟩ (by kernel_rfl) (by kernel_rfl) (by kernel_rfl)
def o49 : Ob := (73, [.symS 60], .ret (.tup [.agg [.int .i64 3, .str [], .sym .i64 53, .int .i64 0], .int .i64 10, .int .i64 0]))
theorem q49 (a b : Int) (H : Hy a b) : Ans (i0 a b) (s0 a b) o49 := by
  have H0 := H
  exact ans [⟨.idxStr (.c (.symS 60)) (.c (.int .i64 0)), .int .u8 48⟩,
    ⟨.len true (.c (.symS 1)), .int .i64 10⟩]
    (⟨by kernel_rfl, ⟨by kernel_rfl, trivial⟩⟩)
    [o44,
    o48]
    ⟨q44 a b H0, ⟨q48 a b H0, trivial⟩⟩ (by kernel_rfl) (by kernel_rfl) (by kernel_rfl)
def o50 : Ob := (224, [.str [43, 45, 42, 47, 126, 38, 46, 44, 59, 124, 40, 41, 91, 93, 123, 125, 58, 94, 61, 35, 60, 62], .int .u8 46], .ret (.int .i64 6))
theorem q50 (a b : Int) (H : Hy a b) : Ans (i0 a b) (s0 a b) o50 := by
  show Ans (i0 a b) (s0 a b) (224, [.str [43, 45, 42, 47, 126, 38, 46, 44, 59, 124, 40, 41, 91, 93, 123, 125, 58, 94, 61, 35, 60, 62], .int .u8 46], .ret (.int .i64 6))
  letI := bare (i0 a b) (s0 a b)
  exact index_ob _ _ _ (by kernel_rfl)
def o51 : Ob := (22, [.symS 34], .ret (.tup [.sl [] [.agg [.int .i64 2, .str [77, 79, 68, 85, 76, 69], .int .i64 0, .int .i64 0], .agg [.int .i64 1, .str [77], .int .i64 0, .int .i64 7], .agg [.int .i64 6, .str [59], .int .i64 0, .int .i64 8], .agg [.int .i64 2, .str [67, 79, 78, 83, 84], .int .i64 0, .int .i64 10], .agg [.int .i64 1, .str [99], .int .i64 0, .int .i64 16], .agg [.int .i64 6, .str [61], .int .i64 0, .int .i64 18], .agg [.int .i64 3, .str [], .sym .i64 50, .int .i64 20], .agg [.int .i64 6, .str [43], .int .i64 0, .int .i64 31], .agg [.int .i64 3, .str [], .sym .i64 53, .int .i64 33], .agg [.int .i64 6, .str [59], .int .i64 0, .int .i64 43], .agg [.int .i64 2, .str [69, 78, 68], .int .i64 0, .int .i64 45], .agg [.int .i64 1, .str [77], .int .i64 0, .int .i64 49], .agg [.int .i64 6, .str [46], .int .i64 0, .int .i64 50], .agg [.int .i64 0, .str [], .int .i64 0, .int .i64 51]], .int .i64 0, .int .i64 0]))
theorem q51 (a b : Int) (H : Hy a b) : Ans (i0 a b) (s0 a b) o51 := by
  have H0 := H
  exact ans [⟨.len true (.c (.symS 34)), .int .i64 51⟩,
    ⟨.slcStr (.c (.symS 34)) (some (.c (.int .i64 0))) none, .symS 34⟩,
    ⟨.bin .eql (.c (.symS 34)) (.c (.str [])), .bool false⟩,
    ⟨.slcStr (.c (.symS 34)) (some (.c (.int .i64 6))) none, .symS 45⟩,
    ⟨.len true (.c (.symS 46)), .int .i64 44⟩,
    ⟨.bin .eql (.c (.symS 46)) (.c (.str [])), .bool false⟩,
    ⟨.slcStr (.c (.symS 34)) (some (.c (.int .i64 8))) none, .symS 47⟩,
    ⟨.len true (.c (.symS 47)), .int .i64 43⟩,
    ⟨.bin .eql (.c (.symS 47)) (.c (.str [])), .bool false⟩,
    ⟨.slcStr (.c (.symS 34)) (some (.c (.int .i64 9))) none, .symS 48⟩,
    ⟨.len true (.c (.symS 49)), .int .i64 41⟩,
    ⟨.bin .eql (.c (.symS 49)) (.c (.str [])), .bool false⟩,
    ⟨.slcStr (.c (.symS 34)) (some (.c (.int .i64 15))) none, .symS 50⟩,
    ⟨.len true (.c (.symS 51)), .int .i64 35⟩,
    ⟨.bin .eql (.c (.symS 51)) (.c (.str [])), .bool false⟩,
    ⟨.slcStr (.c (.symS 34)) (some (.c (.int .i64 17))) none, .symS 52⟩,
    ⟨.len true (.c (.symS 53)), .int .i64 33⟩,
    ⟨.bin .eql (.c (.symS 53)) (.c (.str [])), .bool false⟩,
    ⟨.slcStr (.c (.symS 34)) (some (.c (.int .i64 19))) none, .symS 54⟩,
    ⟨.len true (.c (.symS 55)), .int .i64 31⟩,
    ⟨.bin .eql (.c (.symS 55)) (.c (.str [])), .bool false⟩,
    ⟨.slcStr (.c (.symS 34)) (some (.c (.int .i64 30))) none, .symS 57⟩,
    ⟨.len true (.c (.symS 58)), .int .i64 20⟩,
    ⟨.bin .eql (.c (.symS 58)) (.c (.str [])), .bool false⟩,
    ⟨.slcStr (.c (.symS 34)) (some (.c (.int .i64 32))) none, .symS 59⟩,
    ⟨.len true (.c (.symS 60)), .int .i64 18⟩,
    ⟨.bin .eql (.c (.symS 60)) (.c (.str [])), .bool false⟩,
    ⟨.slcStr (.c (.symS 34)) (some (.c (.int .i64 43))) none, .str [59, 32, 69, 78, 68, 32, 77, 46]⟩,
    ⟨.slcStr (.c (.symS 34)) (some (.c (.int .i64 44))) none, .str [32, 69, 78, 68, 32, 77, 46]⟩,
    ⟨.slcStr (.c (.symS 34)) (some (.c (.int .i64 48))) none, .str [32, 77, 46]⟩,
    ⟨.slcStr (.c (.symS 34)) (some (.c (.int .i64 50))) none, .str [46]⟩,
    ⟨.slcStr (.c (.symS 34)) (some (.c (.int .i64 51))) none, .str []⟩]
    (⟨by kernel_rfl, ⟨by kernel_rfl, ⟨by kernel_rfl, ⟨by kernel_rfl, ⟨by kernel_rfl, ⟨by kernel_rfl, ⟨by kernel_rfl, ⟨by kernel_rfl, ⟨by kernel_rfl, ⟨by kernel_rfl, ⟨by kernel_rfl, ⟨by kernel_rfl, ⟨by kernel_rfl, ⟨by kernel_rfl, ⟨by kernel_rfl, ⟨by kernel_rfl, ⟨by kernel_rfl, ⟨by kernel_rfl, ⟨by kernel_rfl, ⟨by kernel_rfl, ⟨by kernel_rfl, ⟨by kernel_rfl, ⟨by kernel_rfl, ⟨by kernel_rfl, ⟨by kernel_rfl, ⟨by kernel_rfl, ⟨by kernel_rfl, ⟨by kernel_rfl, ⟨by kernel_rfl, ⟨by kernel_rfl, ⟨by kernel_rfl, ⟨by kernel_rfl, trivial⟩⟩⟩⟩⟩⟩⟩⟩⟩⟩⟩⟩⟩⟩⟩⟩⟩⟩⟩⟩⟩⟩⟩⟩⟩⟩⟩⟩⟩⟩⟩⟩)
    [o3,
    o4,
    o6,
    o7,
    o8,
    o10,
    o11,
    o12,
    o15,
    o16,
    o17,
    o19,
    o20,
    o21,
    o23,
    o24,
    o25,
    o28,
    o29,
    o30,
    o36,
    o37,
    o38,
    o41,
    o42,
    o43,
    o49,
    o14,
    o50]
    ⟨q3 a b H0, ⟨q4 a b H0, ⟨q6 a b H0, ⟨q7 a b H0, ⟨q8 a b H0, ⟨q10 a b H0, ⟨q11 a b H0, ⟨q12 a b H0, ⟨q15 a b H0, ⟨q16 a b H0, ⟨q17 a b H0, ⟨q19 a b H0, ⟨q20 a b H0, ⟨q21 a b H0, ⟨q23 a b H0, ⟨q24 a b H0, ⟨q25 a b H0, ⟨q28 a b H0, ⟨q29 a b H0, ⟨q30 a b H0, ⟨q36 a b H0, ⟨q37 a b H0, ⟨q38 a b H0, ⟨q41 a b H0, ⟨q42 a b H0, ⟨q43 a b H0, ⟨q49 a b H0, ⟨q14 a b H0, ⟨q50 a b H0, trivial⟩⟩⟩⟩⟩⟩⟩⟩⟩⟩⟩⟩⟩⟩⟩⟩⟩⟩⟩⟩⟩⟩⟩⟩⟩⟩⟩⟩⟩ (by kernel_rfl) (by kernel_rfl) (by kernel_rfl)
def o52 : Ob := (88, [.agg [.int .i64 24, .str [], .sym .i64 50, .bool false, .nils, .int .i64 20], .bool false], .ret (.bool true))
theorem q52 (a b : Int) (H : Hy a b) (hc : a = 0) : Ans (i0 a b) (s0 a b) o52 := by
  have H0 := H
  have hc0 := hc
  obtain ⟨h1, h2, h3, h4⟩ := H
  have ea := q0_lt a
  have fa : qn a 0 = (a % 4294967296).toNat := rfl
  have eb := q0_lt b
  have fb : qn b 0 = (b % 4294967296).toNat := rfl
  exact ans [⟨.bin .eql (.c (.sym .i64 50)) (.c (.int .i64 0)), .bool true⟩,
    ⟨.convI .i32 (.c (.sym .i64 50)), .int .i32 0⟩]
    (⟨(Eq.trans (b := some (.bool (((a : Int) == (0 : Int))))) (by kernel_rfl) (f_bool (q := true) (beq_iff_eq.2 (by omega)))), ⟨(Eq.trans (b := some (.int .i32 (IntKind.i32.wrap (a : Int)))) (by kernel_rfl) (f_int (p := (IntKind.i32.wrap (a : Int))) (q := (0 : Int)) (by simp only [IntKind.wrap_i64, IntKind.wrap_i32, IntKind.wrap_u64, IntKind.wrap_u32, Int.tdiv_one, Int.tmod_one] <;> omega))), trivial⟩⟩)
    []
    trivial (by kernel_rfl) (by kernel_rfl) (by kernel_rfl)
def o53 : Ob := (88, [.agg [.int .i64 24, .str [], .sym .i64 50, .bool false, .nils, .int .i64 20], .bool false], .ret (.bool true))
theorem q53 (a b : Int) (H : Hy a b) (hc : a ≠ 0) : Ans (i0 a b) (s0 a b) o53 := by
  have H0 := H
  have hc0 := hc
  obtain ⟨h1, h2, h3, h4⟩ := H
  have ea := q0_lt a
  have fa : qn a 0 = (a % 4294967296).toNat := rfl
  have eb := q0_lt b
  have fb : qn b 0 = (b % 4294967296).toNat := rfl
  exact ans [⟨.bin .eql (.c (.sym .i64 50)) (.c (.int .i64 0)), .bool false⟩,
    ⟨.convI .i32 (.c (.sym .i64 50)), .sym .i32 0⟩,
    ⟨.convI .i64 (.c (.sym .i32 0)), .sym .i64 50⟩,
    ⟨.bin .eql (.c (.sym .i64 50)) (.c (.sym .i64 50)), .bool true⟩]
    (⟨(Eq.trans (b := some (.bool (((a : Int) == (0 : Int))))) (by kernel_rfl) (f_bool (q := false) (beq_eq_false_iff_ne.2 (by omega)))), ⟨(Eq.trans (b := some (.int .i32 (IntKind.i32.wrap (a : Int)))) (by kernel_rfl) (f_int (p := (IntKind.i32.wrap (a : Int))) (q := (a : Int)) (by simp only [IntKind.wrap_i64, IntKind.wrap_i32, IntKind.wrap_u64, IntKind.wrap_u32, Int.tdiv_one, Int.tmod_one] <;> omega))), ⟨(Eq.trans (b := some (.int .i64 (IntKind.i64.wrap (a : Int)))) (by kernel_rfl) (f_int (p := (IntKind.i64.wrap (a : Int))) (q := (a : Int)) (by simp only [IntKind.wrap_i64, IntKind.wrap_i32, IntKind.wrap_u64, IntKind.wrap_u32, Int.tdiv_one, Int.tmod_one] <;> omega))), ⟨(Eq.trans (b := some (.bool (((a : Int) == (a : Int))))) (by kernel_rfl) (f_bool (q := true) (beq_iff_eq.2 (by omega)))), trivial⟩⟩⟩⟩)
    []
    trivial (by kernel_rfl) (by kernel_rfl) (by kernel_rfl)
def o54 : Ob := (88, [.agg [.int .i64 24, .str [], .sym .i64 50, .bool false, .nils, .int .i64 20], .bool false], .ret (.bool true))
theorem q54 (a b : Int) (H : Hy a b) : Ans (i0 a b) (s0 a b) o54 := by
  by_cases h : a = 0
  · exact q52 a b H h
  · exact q53 a b H h
def o55 : Ob := (88, [.agg [.int .i64 24, .str [], .sym .i64 53, .bool false, .nils, .int .i64 33], .bool false], .ret (.bool true))
theorem q55 (a b : Int) (H : Hy a b) (hc : b = 0) : Ans (i0 a b) (s0 a b) o55 := by
  have H0 := H
  have hc0 := hc
  obtain ⟨h1, h2, h3, h4⟩ := H
  have ea := q0_lt a
  have fa : qn a 0 = (a % 4294967296).toNat := rfl
  have eb := q0_lt b
  have fb : qn b 0 = (b % 4294967296).toNat := rfl
  exact ans [⟨.bin .eql (.c (.sym .i64 53)) (.c (.int .i64 0)), .bool true⟩,
    ⟨.convI .i32 (.c (.sym .i64 53)), .int .i32 0⟩]
    (⟨(Eq.trans (b := some (.bool (((b : Int) == (0 : Int))))) (by kernel_rfl) (f_bool (q := true) (beq_iff_eq.2 (by omega)))), ⟨(Eq.trans (b := some (.int .i32 (IntKind.i32.wrap (b : Int)))) (by kernel_rfl) (f_int (p := (IntKind.i32.wrap (b : Int))) (q := (0 : Int)) (by simp only [IntKind.wrap_i64, IntKind.wrap_i32, IntKind.wrap_u64, IntKind.wrap_u32, Int.tdiv_one, Int.tmod_one] <;> omega))), trivial⟩⟩)
    []
    trivial (by kernel_rfl) (by kernel_rfl) (by kernel_rfl)
def o56 : Ob := (88, [.agg [.int .i64 24, .str [], .sym .i64 53, .bool false, .nils, .int .i64 33], .bool false], .ret (.bool true))
theorem q56 (a b : Int) (H : Hy a b) (hc : b ≠ 0) : Ans (i0 a b) (s0 a b) o56 := by
  have H0 := H
  have hc0 := hc
  obtain ⟨h1, h2, h3, h4⟩ := H
  have ea := q0_lt a
  have fa : qn a 0 = (a % 4294967296).toNat := rfl
  have eb := q0_lt b
  have fb : qn b 0 = (b % 4294967296).toNat := rfl
  exact ans [⟨.bin .eql (.c (.sym .i64 53)) (.c (.int .i64 0)), .bool false⟩,
    ⟨.convI .i32 (.c (.sym .i64 53)), .sym .i32 1⟩,
    ⟨.convI .i64 (.c (.sym .i32 1)), .sym .i64 53⟩,
    ⟨.bin .eql (.c (.sym .i64 53)) (.c (.sym .i64 53)), .bool true⟩]
    (⟨(Eq.trans (b := some (.bool (((b : Int) == (0 : Int))))) (by kernel_rfl) (f_bool (q := false) (beq_eq_false_iff_ne.2 (by omega)))), ⟨(Eq.trans (b := some (.int .i32 (IntKind.i32.wrap (b : Int)))) (by kernel_rfl) (f_int (p := (IntKind.i32.wrap (b : Int))) (q := (b : Int)) (by simp only [IntKind.wrap_i64, IntKind.wrap_i32, IntKind.wrap_u64, IntKind.wrap_u32, Int.tdiv_one, Int.tmod_one] <;> omega))), ⟨(Eq.trans (b := some (.int .i64 (IntKind.i64.wrap (b : Int)))) (by kernel_rfl) (f_int (p := (IntKind.i64.wrap (b : Int))) (q := (b : Int)) (by simp only [IntKind.wrap_i64, IntKind.wrap_i32, IntKind.wrap_u64, IntKind.wrap_u32, Int.tdiv_one, Int.tmod_one] <;> omega))), ⟨(Eq.trans (b := some (.bool (((b : Int) == (b : Int))))) (by kernel_rfl) (f_bool (q := true) (beq_iff_eq.2 (by omega)))), trivial⟩⟩⟩⟩)
    []
    trivial (by kernel_rfl) (by kernel_rfl) (by kernel_rfl)
def o57 : Ob := (88, [.agg [.int .i64 24, .str [], .sym .i64 53, .bool false, .nils, .int .i64 33], .bool false], .ret (.bool true))
theorem q57 (a b : Int) (H : Hy a b) : Ans (i0 a b) (s0 a b) o57 := by
  by_cases h : b = 0
  · exact q55 a b H h
  · exact q56 a b H h
def o58 : Ob := (170, [.int .i64 13, .sym .i64 50, .sym .i64 53], .ret (.sym .i64 66))
theorem q58 (a b : Int) (H : Hy a b) (hc : True) : Ans (i0 a b) (s0 a b) o58 := by
  have H0 := H
  have hc0 := hc
  obtain ⟨h1, h2, h3, h4⟩ := H
  have ea := q0_lt a
  have fa : qn a 0 = (a % 4294967296).toNat := rfl
  have eb := q0_lt b
  have fb : qn b 0 = (b % 4294967296).toNat := rfl
  exact ans [⟨.convI .i32 (.c (.sym .i64 50)), .sym .i32 0⟩,
    ⟨.convI .i32 (.c (.sym .i64 53)), .sym .i32 1⟩,
    ⟨.bin .add (.c (.sym .i32 0)) (.c (.sym .i32 1)), .sym .i32 65⟩,
    ⟨.convI .i64 (.c (.sym .i32 65)), .sym .i64 66⟩]
    (⟨(Eq.trans (b := some (.int .i32 (IntKind.i32.wrap (a : Int)))) (by kernel_rfl) (f_int (p := (IntKind.i32.wrap (a : Int))) (q := (a : Int)) (by simp only [IntKind.wrap_i64, IntKind.wrap_i32, IntKind.wrap_u64, IntKind.wrap_u32, Int.tdiv_one, Int.tmod_one] <;> omega))), ⟨(Eq.trans (b := some (.int .i32 (IntKind.i32.wrap (b : Int)))) (by kernel_rfl) (f_int (p := (IntKind.i32.wrap (b : Int))) (q := (b : Int)) (by simp only [IntKind.wrap_i64, IntKind.wrap_i32, IntKind.wrap_u64, IntKind.wrap_u32, Int.tdiv_one, Int.tmod_one] <;> omega))), ⟨(Eq.trans (b := some (.int .i32 (IntKind.i32.wrap ((a : Int) + (b : Int))))) (by kernel_rfl) (f_int (p := (IntKind.i32.wrap ((a : Int) + (b : Int)))) (q := ((IntKind.i32.wrap (a + b)) : Int)) (rfl))), ⟨(Eq.trans (b := some (.int .i64 (IntKind.i64.wrap ((IntKind.i32.wrap (a + b)) : Int)))) (by kernel_rfl) (f_int (p := (IntKind.i64.wrap ((IntKind.i32.wrap (a + b)) : Int))) (q := ((IntKind.i32.wrap (a + b)) : Int)) (by simp only [IntKind.wrap_i64, IntKind.wrap_i32, IntKind.wrap_u64, IntKind.wrap_u32, Int.tdiv_one, Int.tmod_one] <;> omega))), trivial⟩⟩⟩⟩)
    []
    trivial (by kernel_rfl) (by kernel_rfl) (by kernel_rfl)
end Go.Proofs.Tryz.Vc
