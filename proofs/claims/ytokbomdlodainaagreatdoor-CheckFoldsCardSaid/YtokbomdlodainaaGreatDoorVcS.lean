/- Answers of the walks; symbols. -/
import Derived.Test.YtokbomdlodainaaGreatDoorVcT
import Derived.Test.YtokbomdlodainaaGreatDoorVeB
import Derived.Test.YtokbomdlodainaaGreatDoorWalks
set_option linter.all false
section
/- What was walked by hand, as answers. -/
namespace Go.Proofs.Tryz.Vc
open Go Go.Proofs Go.Ve

section
variable [Syms]

theorem R_str {c : Ctx} {u : Vl} {l : List UInt8} {x : Value} (hu : den u = .str l) (h : R c u x) : x = .string ⟨l.toArray⟩ := by
  have := R_den.2 h
  rw [hu] at this
  cases this
  rfl

theorem str_R {c : Ctx} {u : Vl} {l : List UInt8} (hu : den u = .str l) : R c u (.string ⟨l.toArray⟩) := by
  refine R_den.1 ?_
  rw [hu]
  exact .str l

def edge : List UInt8 → Prop
  | [] => True
  | c :: _ => ¬ alnum c ∧ c.toNat < 128

theorem word_ob {u v : Vl} (pre rest : List UInt8) (hu : den u = .str (pre ++ rest)) (hv : den v = .str pre) (hf : flatV v = true) (hp : ∀ c ∈ pre, alnum c)
    (hr : edge rest) : ObOk Tryz.prog (129, [u], .ret v) := by
  refine ob_of_calls (fn := Tryz.f129) Tryz.func129 (by kernel_rfl) (by kernel_rfl) hf fun c xs w hl => ?_
  obtain ⟨x, rfl, hx⟩ := hl.one
  obtain rfl := R_str hu hx
  have hsz : (⟨(pre ++ rest).toArray⟩ : ByteArray).size = pre.length + rest.length := by rw [ba_size]; simp
  have hget : ∀ i (h : i < (⟨(pre ++ rest).toArray⟩ : ByteArray).size), (⟨(pre ++ rest).toArray⟩ : ByteArray)[i] = (pre ++ rest)[i]'(by rw [hsz] at h; simpa using h) := fun i h => rfl
  refine (word_walk ⟨(pre ++ rest).toArray⟩ pre.length (by rw [hsz]; omega) (fun i h hi => ?_) (fun h => ?_) w).mono fun e w' ⟨he, pos, hw⟩ => ⟨⟨_, he, ?_⟩, by rw [hw]; exact Apart.iter _ _ _⟩
  · rw [hget, List.getElem_append_left hi]
    exact hp _ (List.getElem_mem _)
  · rw [hget, List.getElem_append_right (Nat.le_refl _)]
    cases rest with
    | nil => rw [hsz] at h; simp at h
    | cons d l => simpa [edge] using hr
  · rw [ba_extract]
    have : slcL (pre ++ rest) 0 pre.length = pre := by simp [slcL]
    rw [this]
    exact str_R hv

theorem parse_ob {u v : Vl} (l : List UInt8) (hu : den u = .str l) (hv : den v = .int .u64 (pv 16 0 l)) (hf : flatV v = true) (h0 : l ≠ []) (hn : l.length ≤ 14) (hd : ∀ c ∈ l, hexd c) :
    ObOk Tryz.prog (215, [u, .int .i64 16, .int .i64 64], .ret (.tup [v, .nili])) := by
  refine ob_of_calls (fn := Tryz.f215) Tryz.func215 (by kernel_rfl) (by kernel_rfl) (by simp [flatV, flatVs, hf]) fun c xs w hl => ?_
  obtain ⟨x, y, z, rfl, hx, hy, hz⟩ := hl.three
  obtain rfl := R_str hu hx
  cases hy; cases hz
  have hsz : (⟨l.toArray⟩ : ByteArray).size = l.length := by rw [ba_size]
  refine (parse_walk ⟨l.toArray⟩ (by rw [hsz]; simpa using h0) (by rw [hsz]; exact hn) (by simpa using hd) w).mono fun e w' ⟨he, hw⟩ => ⟨⟨_, he, ?_⟩, by rw [hw]; exact Apart.bytes _ _ _⟩
  refine .tup _ _ rfl fun j a b ha hb => ?_
  match j with
  | 0 => simp at ha hb; subst ha; subst hb; refine R_den.1 ?_; rw [hv]; exact .int _ _
  | 1 => simp at ha hb; subst ha; subst hb; exact .nili
  | j + 2 => simp at ha

theorem parse10_ob (l : List UInt8) (h0 : l ≠ []) (hn : l.length ≤ 14) (hd : ∀ c ∈ l, 48 ≤ c.toNat ∧ c.toNat ≤ 57) :
    ObOk Tryz.prog (215, [.str l, .int .i64 10, .int .i64 64], .ret (.tup [.int .u64 (pv 10 0 l), .nili])) := by
  refine ob_of_calls (fn := Tryz.f215) Tryz.func215 (by kernel_rfl) (by kernel_rfl) (by simp [flatV, flatVs]) fun c xs w hl => ?_
  obtain ⟨x, y, z, rfl, hx, hy, hz⟩ := hl.three
  cases hx; cases hy; cases hz
  have hsz : (⟨l.toArray⟩ : ByteArray).size = l.length := by rw [ba_size]
  refine (parse10_walk ⟨l.toArray⟩ (by rw [hsz]; simpa using h0) (by rw [hsz]; exact hn) (by simpa using hd) w).mono fun e w' ⟨he, hw⟩ => ⟨⟨_, he, ?_⟩, by rw [hw]; exact Apart.bytes _ _ _⟩
  refine .tup _ _ rfl fun j a b ha hb => ?_
  match j with
  | 0 => simp at ha hb; subst ha; subst hb; exact .int _ _
  | 1 => simp at ha hb; subst ha; subst hb; exact .nili
  | j + 2 => simp at ha

theorem upper_ob {u : Vl} (l : List UInt8) (hu : den u = .str l) (hf : flatV u = true) (hn : l.length ≤ 1000) (hd : ∀ c ∈ l, c.toNat < 97) : ObOk Tryz.prog (186, [u], .ret u) := by
  refine ob_of_calls (fn := Tryz.f186) Tryz.func186 (by kernel_rfl) (by kernel_rfl) hf fun c xs w hl => ?_
  obtain ⟨x, rfl, hx⟩ := hl.one
  obtain rfl := R_str hu hx
  have hsz : (⟨l.toArray⟩ : ByteArray).size = l.length := by rw [ba_size]
  refine (upper_walk ⟨l.toArray⟩ (by rw [hsz]; exact hn) (fun i h => ?_) w).mono fun e w' ⟨he, hw⟩ => ⟨⟨_, he, str_R hu⟩, by rw [← hw]; exact Apart.refl _⟩
  have hget : (⟨l.toArray⟩ : ByteArray)[i] = l[i]'(by rw [hsz] at h; exact h) := rfl
  rw [hget]
  exact hd _ (List.getElem_mem _)

theorem index_ob (l : List UInt8) (c : Int) (n : Int) (h : Lib.indexByte l c.toNat.toUInt8 = n) : ObOk Tryz.prog (224, [.str l, .int .u8 c], .ret (.int .i64 n)) := by
  refine ob_of_calls (fn := Tryz.f224) Tryz.func224 (by kernel_rfl) (by kernel_rfl) rfl fun cx xs w hl => ?_
  obtain ⟨x, y, rfl, hx, hy⟩ := hl.two
  cases hx; cases hy
  refine (index_walk ⟨l.toArray⟩ c w).mono fun e w' ⟨he, hw⟩ => ⟨⟨_, he, ?_⟩, by rw [hw]; exact Apart.refl _⟩
  have : (⟨l.toArray⟩ : ByteArray).data.toList = l := by simp
  rw [this, h]
  exact .int _ _

def noExt : CallFn := fun _ _ _ _ => none
theorem noExt_ok {tab : FuncId → Option VF} : ExtOk Tryz.prog tab noExt := fun f vs p m r m' h => by
  dsimp only at h
  split at h <;> cases h
theorem mixed : Tryz.prog.follows .mixedOrders = true := by kernel_rfl

/-- A run of V over the seat's tables. -/
theorem run_ok {L : List Ob} (hL : ∀ x ∈ L, ObOk Tryz.prog x) : CallOk Tryz.prog (callV tabT.get recT.get (orcOf L) noExt 200) :=
  call_ok tab_ok rec_ok' (orcOf_ok hL) noExt_ok meth_ok mixed 200
end
end Go.Proofs.Tryz.Vc
end

section
/- Symbols of CheckFolds: its numbers, their digits, the sources made of them. -/
namespace Go.Proofs.Tryz.Vc
open Go Go.Proofs Go.Ve

/-- What is left of a number's 32 bits when j digits are gone. -/
def qn (a : Int) : Nat → Nat
  | 0 => (a % 4294967296).toNat
  | j + 1 => qn a j / 16
def hx (n : Nat) : UInt8 := if n < 10 then UInt8.ofNat (48 + n) else UInt8.ofNat (55 + n)
def dg (a : Int) (j : Nat) : UInt8 := hx (qn a j % 16)
def tr (p : Prop) [Decidable p] : Int := if p then 1 else 0
def mxV (m : Bool) (x y : Int) : Int := if m then (if y > x then y else x) else (if y < x then y else x)

def okAll (i : Nat → Int) (s : Nat → List UInt8) : List Fact → Prop
  | [] => True
  | f :: l => pureB (fun x => denV i s (opd [] x)) f.op = some (denV i s f.v) ∧ okAll i s l
theorem okAll_ok {i : Nat → Int} {s : Nat → List UInt8} : ∀ {l : List Fact}, okAll i s l → ∀ f ∈ l, pureB (fun x => denV i s (opd [] x)) f.op = some (denV i s f.v)
  | [], _, f, h => by cases h
  | x :: l, h, f, hf => by
    cases hf with
    | head => exact h.1
    | tail _ hf => exact okAll_ok h.2 f hf

theorem okAll_app {i : Nat → Int} {s : Nat → List UInt8} : ∀ {l l' : List Fact}, okAll i s l → okAll i s l' → okAll i s (l ++ l')
  | [], _, _, h => h
  | _ :: _, _, h, h' => ⟨h.1, okAll_app h.2 h'⟩

section
variable (i : Nat → Int) (s : Nat → List UInt8)
abbrev bare : Syms := ⟨i, s, [], fun _ h => by cases h⟩
abbrev mk (fx : List Fact) (h : okAll i s fx) : Syms := ⟨i, s, fx, okAll_ok h⟩
def Ans (x : Ob) : Prop := @ObOk (bare i s) Tryz.prog x
def Alls : List Ob → Prop
  | [] => True
  | x :: l => Ans i s x ∧ Alls l
end
theorem alls_mem {i : Nat → Int} {s : Nat → List UInt8} : ∀ {L : List Ob}, Alls i s L → ∀ x ∈ L, Ans i s x
  | [], _, x, h => by cases h
  | y :: l, h, x, hx => by
    cases hx with
    | head => exact h.1
    | tail _ hx => exact alls_mem h.2 x hx

def freeR : CR → Bool
  | .ret v => free v
  | .pan (.u v) => free v
  | .pan .rt => true

theorem ans {i : Nat → Int} {s : Nat → List UInt8} (fx : List Fact) (hf : okAll i s fx) (L : List Ob) (hL : Alls i s L) {f : FuncId} {vs : List Vl} {r : CR}
    (hrun : (@callV (mk i s fx hf) tabT.get recT.get (orcOf L) noExt 200 f vs [] ⟨[], []⟩).map (fun x => stripR x.1) = some r) (hvs : flatVs vs = true)
    (hr : freeR r = true) : Ans i s (f, vs, r) := by
  have h := @ob_of_runS (mk i s fx hf) Tryz.prog _ (@run_ok (mk i s fx hf) L fun x hx => @ObOk.syms Tryz.prog (bare i s) (mk i s fx hf) rfl rfl x (alls_mem hL x hx)) f vs r hrun hvs (by
    cases r with
    | ret v => exact hr
    | pan v => cases v <;> exact hr)
  exact @ObOk.syms Tryz.prog (mk i s fx hf) (bare i s) rfl rfl _ h

theorem Ans.den {i : Nat → Int} {s : Nat → List UInt8} {f : FuncId} {vs : List Vl} {v v' : Vl} (h : Ans i s (f, vs, .ret v)) (e : denV i s v = denV i s v') : Ans i s (f, vs, .ret v') := by
  letI := bare i s
  refine ⟨h.1, fun p m g w xs h1 h2 h3 => (h.2 p m g w xs h1 h2 h3).mono fun x w' ⟨g', q1, q2, q3, q4⟩ => ⟨g', q1, q2, q3, ?_⟩⟩
  cases x <;> first | exact q4.elim | skip
  have q5 := R_den.2 q4
  exact R_den.1 (by
    have : Ve.den v' = Ve.den v := e.symm
    rw [this]; exact q5)

def id' (x : VOpd) : Vl := opd [] x
/- Facts. -/
section
variable {i : Nat → Int} {s : Nat → List UInt8}
theorem neS_self (n : Nat) : pureB (fun x => denV i s (opd [] x)) (.bin .neq (.c (.symS n)) (.c (.symS n))) = some (denV i s (.bool false)) := by
  simp [pureB, binV, opd, denV]
theorem f_bool {p q : Bool} (h : p = q) : some (Vl.bool p) = some (Vl.bool q) := congrArg _ (congrArg _ h)
theorem f_int {k : IntKind} {p q : Int} (h : p = q) : some (Vl.int k p) = some (Vl.int k q) := congrArg _ (congrArg _ h)
theorem q_quo {k : IntKind} {x y r : Int} (hy : y ≠ 0) (h : k.wrap (x.tdiv y) = r) : pureB id' (.bin .quo (.c (.int k x)) (.c (.int k y))) = some (.int k r) := by
  simp [pureB, id', opd, binV, hy, h]
theorem q_rem {k : IntKind} {x y r : Int} (hy : y ≠ 0) (h : x.tmod y = r) : pureB id' (.bin .rem (.c (.int k x)) (.c (.int k y))) = some (.int k r) := by
  simp [pureB, id', opd, binV, hy, h]
theorem tmn (n : Nat) : ((n : Int)).tmod 16 = ((n % 16 : Nat) : Int) := by rw [Int.tmod_eq_emod_of_nonneg (by omega)]; omega
theorem tdn (n : Nat) : ((n : Int)).tdiv 16 = ((n / 16 : Nat) : Int) := by rw [Int.tdiv_eq_ediv_of_nonneg (by omega)]; omega
theorem q0_lt (a : Int) : qn a 0 < 4294967296 := by simp only [qn]; omega
theorem q_lt (a : Int) : ∀ j, qn a j < 4294967296
  | 0 => q0_lt a
  | j + 1 => by have := q_lt a j; simp only [qn]; omega
theorem q7_lt (a : Int) : qn a 7 < 16 := by have := q0_lt a; simp only [qn] at *; omega

theorem hex_slc (n : Nat) (h : n < 16) : slcL [(48 : UInt8), 49, 50, 51, 52, 53, 54, 55, 56, 57, 65, 66, 67, 68, 69, 70] n (n + 1) = [hx n] := by
  have : n = 0 ∨ n = 1 ∨ n = 2 ∨ n = 3 ∨ n = 4 ∨ n = 5 ∨ n = 6 ∨ n = 7 ∨ n = 8 ∨ n = 9 ∨ n = 10 ∨ n = 11 ∨ n = 12 ∨ n = 13 ∨ n = 14 ∨ n = 15 := by omega
  rcases this with rfl | rfl | rfl | rfl | rfl | rfl | rfl | rfl | rfl | rfl | rfl | rfl | rfl | rfl | rfl | rfl <;> rfl

theorem f_hex {k k' : IntKind} {n : Nat} (h : n < 16) {u v : Int} (hu : u = (n : Int)) (hv : v = ((n + 1 : Nat) : Int)) {l : List UInt8} (hl : l = [hx n]) :
    pureB id' (.slcStr (.c (.str [48, 49, 50, 51, 52, 53, 54, 55, 56, 57, 65, 66, 67, 68, 69, 70])) (some (.c (.int k u))) (some (.c (.int k' v)))) = some (.str l) := by
  subst hu; subst hv; subst hl
  simp only [pureB, id', opd, asI]
  rw [if_pos (by simp only [List.length_cons, List.length_nil]; omega)]
  congr 2
  exact hex_slc n h
end

instance (c : UInt8) : Decidable (hexd c) := by unfold hexd; infer_instance
instance (c : UInt8) : Decidable (alnum c) := by unfold alnum; infer_instance
theorem hx_hexd (n : Nat) (h : n < 16) : hexd (hx n) ∧ dv (hx n) = n := by
  have : n = 0 ∨ n = 1 ∨ n = 2 ∨ n = 3 ∨ n = 4 ∨ n = 5 ∨ n = 6 ∨ n = 7 ∨ n = 8 ∨ n = 9 ∨ n = 10 ∨ n = 11 ∨ n = 12 ∨ n = 13 ∨ n = 14 ∨ n = 15 := by omega
  rcases this with rfl | rfl | rfl | rfl | rfl | rfl | rfl | rfl | rfl | rfl | rfl | rfl | rfl | rfl | rfl | rfl <;> decide
theorem dg_hexd (a : Int) (j : Nat) : hexd (dg a j) := (hx_hexd _ (Nat.mod_lt _ (by decide))).1
theorem dg_dv (a : Int) (j : Nat) : dv (dg a j) = qn a j % 16 := (hx_hexd _ (Nat.mod_lt _ (by decide))).2
def dgs (a : Int) : List UInt8 := [48, dg a 7, dg a 6, dg a 5, dg a 4, dg a 3, dg a 2, dg a 1, dg a 0]
theorem dgs_hexd (a : Int) : ∀ c ∈ dgs a, hexd c := by
  intro c h
  simp only [dgs, List.mem_cons, List.not_mem_nil, or_false] at h
  rcases h with rfl | rfl | rfl | rfl | rfl | rfl | rfl | rfl | rfl <;> first | exact dg_hexd _ _ | decide
theorem dgs_upper (a : Int) : ∀ c ∈ dgs a, c.toNat < 97 := fun c h => by
  have := dgs_hexd a c h
  unfold hexd at this
  omega
theorem dgs_alnum (a : Int) : ∀ c ∈ dgs a ++ [72], alnum c := by
  intro c h
  rcases List.mem_append.1 h with h | h
  · have := dgs_hexd a c h
    unfold hexd at this
    unfold alnum
    omega
  · simp only [List.mem_cons, List.not_mem_nil, or_false] at h
    subst h
    decide
theorem dgs_pv (a : Int) : pv 16 0 (dgs a) = qn a 0 := by
  have h0 := q0_lt a
  have h1 : qn a 1 = qn a 0 / 16 := rfl
  have h2 : qn a 2 = qn a 1 / 16 := rfl
  have h3 : qn a 3 = qn a 2 / 16 := rfl
  have h4 : qn a 4 = qn a 3 / 16 := rfl
  have h5 : qn a 5 = qn a 4 / 16 := rfl
  have h6 : qn a 6 = qn a 5 / 16 := rfl
  have h7 : qn a 7 = qn a 6 / 16 := rfl
  have hd : dv 48 = 0 := by decide
  simp only [dgs, pv, dg_dv, hd]
  omega

def alb (c : UInt8) : Bool := decide (48 ≤ c.toNat ∧ c.toNat ≤ 57 ∨ 65 ≤ c.toNat ∧ c.toNat ≤ 90 ∨ 97 ≤ c.toNat ∧ c.toNat ≤ 122)
theorem al_all {l : List UInt8} (h : l.all alb = true) : ∀ c ∈ l, alnum c := fun c hc => of_decide_eq_true (List.all_eq_true.1 h c hc)
def nalb : List UInt8 → Bool
  | [] => true
  | c :: _ => !alb c && decide (c.toNat < 128)
theorem nal_ok {l : List UInt8} (h : nalb l = true) : edge l := by
  cases l with
  | nil => trivial
  | cons c l =>
    simp only [nalb, Bool.and_eq_true, Bool.not_eq_true', decide_eq_true_eq] at h
    refine ⟨fun hc => ?_, h.2⟩
    rw [show alb c = true from decide_eq_true hc] at h
    cases h.1

/-- Both numbers are of 32 bits. -/
structure Hy (a b : Int) : Prop where
  h1 : -2147483648 ≤ a
  h2 : a ≤ 2147483647
  h3 : -2147483648 ≤ b
  h4 : b ≤ 2147483647

/-- What division is. -/
theorem divs {a b : Int} (hb : 0 < b) : b * a.tdiv b + a.tmod b = a ∧ a.tmod b < b ∧ -b < a.tmod b ∧ (0 ≤ a → 0 ≤ a.tmod b) ∧ (a ≤ 0 → a.tmod b ≤ 0) := by
  have h1 := Int.tmod_lt_of_pos a hb
  have h2 := Int.mul_tdiv_add_tmod a b
  have h3 := Int.lt_tmod_of_pos a hb
  refine ⟨h2, h1, h3, fun h => Int.tmod_nonneg _ h, fun h => ?_⟩
  have := Int.tmod_nonneg b (a := -a) (by omega)
  rw [Int.neg_tmod] at this
  omega
theorem tdiv_bd {a b : Int} (hb : 0 < b) (h1 : -2147483648 ≤ a) (h2 : a ≤ 2147483647) : -2147483648 ≤ a.tdiv b ∧ a.tdiv b ≤ 2147483647 := by
  have h3 : (a.tdiv b).natAbs ≤ a.natAbs := by rw [Int.natAbs_tdiv]; exact Nat.div_le_self _ _
  have h4 : 0 ≤ a → 0 ≤ a.tdiv b := fun h => Int.tdiv_nonneg h (by omega)
  have h5 : a ≤ 0 → a.tdiv b ≤ 0 := fun h => by
    have := Int.tdiv_nonneg (a := -a) (b := b) (by omega) (by omega)
    rw [Int.neg_tdiv] at this
    omega
  omega
theorem div_floor {a b : Int} (hb : 0 < b) : (a.tmod b < 0 → a / b = a.tdiv b - 1 ∧ a % b = a.tmod b + b) ∧ (0 ≤ a.tmod b → a / b = a.tdiv b ∧ a % b = a.tmod b) := by
  obtain ⟨h1, h2, h3, _⟩ := divs (a := a) hb
  have e := Int.mul_ediv_add_emod a b
  have e1 := Int.emod_nonneg a (b := b) (by omega)
  have e2 := Int.emod_lt_of_pos a hb
  constructor
  · intro h
    have : a % b = a.tmod b + b ∧ a / b = a.tdiv b - 1 := by
      have k := Int.ediv_emod_unique (a := a) (b := b) (r := a.tmod b + b) (q := a.tdiv b - 1) hb
      obtain ⟨u, v⟩ := k.2 ⟨by rw [Int.mul_sub]; omega, by omega, by omega⟩
      exact ⟨v, u⟩
    exact ⟨this.2, this.1⟩
  · intro h
    have k := Int.ediv_emod_unique (a := a) (b := b) (r := a.tmod b) (q := a.tdiv b) hb
    exact k.2 ⟨by omega, by omega, by omega⟩
end Go.Proofs.Tryz.Vc
end

