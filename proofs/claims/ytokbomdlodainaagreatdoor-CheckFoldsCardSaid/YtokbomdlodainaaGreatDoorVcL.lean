/- The law. -/
import Derived.Test.YtokbomdlodainaaGreatDoorVcQ5
import Derived.Test.YtokbomdlodainaaGreatDoorRows
set_option linter.all false
namespace Go.Proofs.Tryz.Vc
open Go Go.Proofs Go.Ve
theorem law (a b : Int) (H : Hy a b) : Ans (i0 a b) (s0 a b) (3, [.sym .i32 0, .sym .i32 1], .ret (.bool true)) := by
  rcases Int.lt_or_le 0 b with hb | hb
  · obtain ⟨d1, d2, d3, d4, d5⟩ := divs (a := a) hb
    rcases Int.lt_or_le (a.tmod b) 0 with hr | hr
    · exact q453 a b H ⟨hb, by omega, hr⟩
    · rcases Int.lt_trichotomy a b with h | h | h
      · exact q454 a b H ⟨hb, h, hr⟩
      · exact q451 a b H ⟨hb, h, hr⟩
      · exact q452 a b H ⟨hb, h, hr⟩
  · rcases Int.lt_trichotomy a b with h | h | h
    · exact q442 a b H ⟨hb, h⟩
    · exact q440 a b H ⟨hb, h⟩
    · exact q441 a b H ⟨hb, h⟩
theorem law_walk (a0 : Int) (a1 : Int) (w0 : (Lit.int .i32 a0).wf = true) (w1 : (Lit.int .i32 a1).wf = true) (w : World) :
    Calls Tryz.prog 3 #[.int .i32 a0, .int .i32 a1] w fun e w' => e = .returned (.bool true) ∧ Go.Ve.Apart w w' := by
  have H : Hy a0 a1 := by
    have e1 : IntKind.i32.min = -2147483648 := by decide
    have e2 : IntKind.i32.max = 2147483647 := by decide
    simp [Lit.wf] at w0 w1
    exact ⟨by omega, by omega, by omega, by omega⟩
  letI := bare (i0 a0 a1) (s0 a0 a1)
  have h := calls_of_ob (law a0 a1 H) rfl (w := w) (xs := #[.int .i32 a0, .int .i32 a1]) (fun c => ⟨rfl, fun j v x hv hx => by
    match j with
    | 0 => simp at hv hx; subst hv; subst hx; exact R.sym .i32 0
    | 1 => simp at hv hx; subst hv; subst hx; exact R.sym .i32 1
    | j + 2 => simp at hv⟩)
  refine h.mono fun e w' ⟨⟨c, x, he, hx⟩, ha⟩ => ⟨?_, ha⟩
  cases hx
  exact he
end Go.Proofs.Tryz.Vc
