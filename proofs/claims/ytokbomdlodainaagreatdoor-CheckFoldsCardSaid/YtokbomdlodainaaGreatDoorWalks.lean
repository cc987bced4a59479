/- Walks by hand. -/
import Derived.Test.YtokbomdlodainaaGreatDoorProg
import Derived.Tactics
import Derived.Tactics2
import Derived.StillTactics
import Derived.WalkKit
import Derived.Laws.RangeString
import Derived.Laws.RangeAny
import Derived.Laws.Closers25
import Derived.Laws.Closers25b
import Derived.Laws.Strings
import Derived.Laws.Strings2
import Derived.Laws.Strings3
import Derived.LoopTactic
import Derived.Scope
import Derived.Lib.Hide
import Derived.Lib.Strings
import Derived.Lib.Walk
import Derived.Lib.ConvBytes
import Derived.BigCall
import Derived.BigGuard
import Derived.RowKit3
import Derived.Lib.RabinKarpLaws
import Derived.Laws.Externs
set_option linter.all false
section
namespace Go.Proofs.Tryz.Vc
open Go Go.Proofs

def alnum (c : UInt8) : Prop := 48 ≤ c.toNat ∧ c.toNat ≤ 57 ∨ 65 ≤ c.toNat ∧ c.toNat ≤ 90 ∨ 97 ≤ c.toNat ∧ c.toNat ≤ 122

set_option maxHeartbeats 1000000 in
theorem letter_walk (c : Int) (w : World) (b : Bool) (h : (b = true ∧ (97 ≤ c ∧ c ≤ 122 ∨ 65 ≤ c ∧ c ≤ 90)) ∨ (b = false ∧ ¬ (97 ≤ c ∧ c ≤ 122 ∨ 65 ≤ c ∧ c ≤ 90))) :
    Calls Tryz.prog 130 #[.int .i32 c] w fun e w' => e = .returned (.bool b) ∧ w = w' := by
  rcases h with ⟨rfl, h⟩ | ⟨rfl, h⟩
  · rcases h with ⟨h1, h2⟩ | ⟨h1, h2⟩
    · go_enter Tryz.func130, Tryz.ntmps130
      go_wp2
      go_ret
      exact ⟨rfl, rfl⟩
    · have h3 : ¬ 97 ≤ c := by omega
      go_enter Tryz.func130, Tryz.ntmps130
      go_wp2
      go_ret
      exact ⟨rfl, rfl⟩
  · by_cases h1 : 97 ≤ c
    · have h2 : ¬ c ≤ 122 := by omega
      have h4 : ¬ c ≤ 90 := by omega
      have h3 : 65 ≤ c := by omega
      clear h
      go_enter Tryz.func130, Tryz.ntmps130
      go_wp2
      go_ret
      exact ⟨rfl, rfl⟩
    · by_cases h3 : 65 ≤ c
      · have h4 : ¬ c ≤ 90 := by omega
        clear h
        go_enter Tryz.func130, Tryz.ntmps130
        go_wp2
        go_ret
        exact ⟨rfl, rfl⟩
      · clear h
        go_enter Tryz.func130, Tryz.ntmps130
        go_wp2
        go_ret
        exact ⟨rfl, rfl⟩

set_option maxHeartbeats 1000000 in
theorem digit_walk (c : Int) (w : World) (b : Bool) (h : (b = true ∧ (48 ≤ c ∧ c ≤ 57)) ∨ (b = false ∧ ¬ (48 ≤ c ∧ c ≤ 57))) :
    Calls Tryz.prog 132 #[.int .i32 c] w fun e w' => e = .returned (.bool b) ∧ w = w' := by
  rcases h with ⟨rfl, h1, h2⟩ | ⟨rfl, h⟩
  · go_enter Tryz.func132, Tryz.ntmps132
    go_wp2
    go_ret
    exact ⟨rfl, rfl⟩
  · by_cases h1 : 48 ≤ c
    · have h2 : ¬ c ≤ 57 := by omega
      clear h
      go_enter Tryz.func132, Tryz.ntmps132
      go_wp2
      go_ret
      exact ⟨rfl, rfl⟩
    · clear h
      go_enter Tryz.func132, Tryz.ntmps132
      go_wp2
      go_ret
      exact ⟨rfl, rfl⟩

set_option maxHeartbeats 4000000 in
set_option maxRecDepth 1000000 in
/-- The word with which a text begins: n letters and digits; behind them the end, or another ASCII sign. -/
theorem word_walk (s : ByteArray) (n : Nat) (hn : n ≤ s.size) (hp : ∀ i (h : i < s.size), i < n → alnum s[i]) (hr : ∀ h : n < s.size, ¬ alnum s[n] ∧ s[n].toNat < 128) (w : World) :
    Calls Tryz.prog 129 #[.string s] w fun e w' => e = .returned (.string (s.extract 0 n)) ∧ ∃ pos, w' = w.iter s pos := by
  go_enter Tryz.func129, Tryz.ntmps129
  go_wp2
  go_loopw [2] (fun r w' => ∃ pos : Nat, w' = w.iter s pos ∧ r = .string ⟨#[]⟩ ∧ pos ≤ n) (fun _ w' => s.size - w'.iterPos w.heap.size)
  case atStart => exact ⟨0, rfl, rfl, by omega⟩
  case round =>
    obtain ⟨pos, rfl, rfl, hb⟩ := hrel
    by_cases hlt : pos < s.size
    · have hnx : ∀ ty, (Instr.next (.pointer (some ⟨w.heap.size, 0, none⟩)) true ty).run Tryz.prog (w.iter s pos) = _ := fun ty => run_next_any w s pos ty hlt
      by_cases hpn : pos < n
      · have ha := hp pos hlt hpn
        have hasc : (s[pos]'hlt).toNat < 128 := by unfold alnum at ha; omega
        rw [decode_ascii s pos hlt hasc] at hnx
        have hsz : s.size - (pos + 1) < s.size - pos := by omega
        generalize s[pos]'hlt = c at hnx ha hasc
        clear hp hr
        rcases ha with ⟨h1, h2⟩ | h1
        · have g1 : 48 ≤ (c.toNat : Int) := by omega
          have g2 : (c.toNat : Int) ≤ 57 := by omega
          clear h1 h2
          go_wp2_with (first
            | (go_at_call 130; refine (letter_walk _ _ false (.inr ⟨rfl, by omega⟩)).mono ?_; rintro e w' ⟨rfl, rfl⟩)
            | (go_at_call 132; refine (digit_walk _ _ true (.inl ⟨rfl, by omega, by omega⟩)).mono ?_; rintro e w' ⟨rfl, rfl⟩))
          go_roundw
          case rel => exact ⟨pos + 1, rfl, rfl, by omega⟩
          case measure => simp; omega
        · have g1 : 97 ≤ (c.toNat : Int) ∧ (c.toNat : Int) ≤ 122 ∨ 65 ≤ (c.toNat : Int) ∧ (c.toNat : Int) ≤ 90 := by omega
          clear h1
          go_wp2_with (first
            | (go_at_call 130; refine (letter_walk _ _ true (.inl ⟨rfl, g1⟩)).mono ?_; rintro e w' ⟨rfl, rfl⟩))
          go_roundw
          case rel => exact ⟨pos + 1, rfl, rfl, by omega⟩
          case measure => simp; omega
      · have hpe : pos = n := by omega
        subst hpe
        obtain ⟨ha, hasc⟩ := hr hlt
        rw [decode_ascii s pos hlt hasc] at hnx
        generalize s[pos]'hlt = c at hnx ha hasc
        clear hp hr hpn hb
        have g1 : ¬ (97 ≤ (c.toNat : Int) ∧ (c.toNat : Int) ≤ 122 ∨ 65 ≤ (c.toNat : Int) ∧ (c.toNat : Int) ≤ 90) := by unfold alnum at ha; omega
        have g2 : ¬ (48 ≤ (c.toNat : Int) ∧ (c.toNat : Int) ≤ 57) := by unfold alnum at ha; omega
        clear ha
        go_wp2_with (first
            | (go_at_call 130; refine (letter_walk _ _ false (.inr ⟨rfl, g1⟩)).mono ?_; rintro e w' ⟨rfl, rfl⟩)
            | (go_at_call 132; refine (digit_walk _ _ false (.inr ⟨rfl, g2⟩)).mono ?_; rintro e w' ⟨rfl, rfl⟩))
        go_ret
        exact ⟨by simp, _, rfl⟩
    · have hnx : ∀ ty, (Instr.next (.pointer (some ⟨w.heap.size, 0, none⟩)) true ty).run Tryz.prog (w.iter s pos) = _ := fun ty => run_next_end w s pos ty hlt
      have hpe : n = s.size := by omega
      clear hp hr
      subst hpe
      go_wp2
      go_ret
      exact ⟨by simp, _, rfl⟩
end Go.Proofs.Tryz.Vc
end

section
namespace Go.Proofs.Tryz.Vc
open Go Go.Proofs Go.RowKit

/-- A digit's value. -/
def dv (c : UInt8) : Nat := if c.toNat ≤ 57 then c.toNat - 48 else c.toNat - 55
def hexd (c : UInt8) : Prop := 48 ≤ c.toNat ∧ c.toNat ≤ 57 ∨ 65 ≤ c.toNat ∧ c.toNat ≤ 70
/-- The number that digits are. -/
def pv (b : Nat) : Nat → List UInt8 → Nat
  | n, [] => n
  | n, c :: l => pv b (n * b + dv c) l

set_option maxHeartbeats 1000000 in
theorem lower_walk (c : Int) (h0 : 65 ≤ c) (h1 : c ≤ 70) (w : World) : Calls Tryz.prog 235 #[.int .u8 c] w fun e w' => e = .returned (.int .u8 (c + 32)) ∧ w = w' := by
  have hc : c = 65 ∨ c = 66 ∨ c = 67 ∨ c = 68 ∨ c = 69 ∨ c = 70 := by omega
  rcases hc with rfl | rfl | rfl | rfl | rfl | rfl <;>
  · go_enter Tryz.func235, Tryz.ntmps235
    go_wp2
    go_ret
    exact ⟨rfl, rfl⟩

set_option maxHeartbeats 32000000 in
set_option maxRecDepth 100000 in
theorem parse_walk (t : ByteArray) (hne : t.size ≠ 0) (hmax : t.size ≤ 14) (hd : ∀ c ∈ t.data.toList, hexd c) (w : World) :
    Calls Tryz.prog 215 #[.string t, .int .i64 16, .int .i64 64] w fun e w' => e = .returned (.tuple #[.int .u64 (pv 16 0 t.data.toList), .nilIface]) ∧ w' = Lib.bytesWorld w 5 t := by
  have hemp : t.toList.isEmpty = false := by
    rw [← decide_eq_emptyBytes]
    exact decide_eq_false (fun h => hne (by rw [h]; rfl))
  have hcv := Lib.run_convert_string_bytes (P := Tryz.prog) w 9 270 5 t (u := .string) Tryz.underlying9 Tryz.underlying270 Tryz.underlying5
  have hB : ∀ j, j < t.size → (Lib.bytesWorld w 5 t).cell? ⟨w.heap.size, j, none⟩ = some (.int .u8 (t.data.toList.getD j 0).toNat) := fun j hj => Lib.bytesWorld_cell w 5 t j hj
  obtain ⟨W1, hW1⟩ : ∃ W1, W1 = Lib.bytesWorld w 5 t := ⟨_, rfl⟩
  rw [← hW1] at hcv hB ⊢
  clear hW1
  obtain ⟨bs, hL⟩ : ∃ bs, bs = t.data.toList := ⟨_, rfl⟩
  have hLn : bs.length = t.size := by rw [hL, Lib.size_eq]
  rw [← hL] at hB hd ⊢
  clear hL
  have hmv : IntKind.u64.wrap (IntKind.u64.wrap 18446744073709551616 - 1) = 18446744073709551615 := by
    rw [IntKind.wrap_u64, IntKind.wrap_u64]
    decide
  go_enter Tryz.func215, Tryz.ntmps215
  go_wp2
  go_loop [12, 13, 101] (fun vu vn vi => ∃ (k acc : Nat) (a : Int), vu = .bool false ∧ vn = .int .u64 a ∧ vi = .int .i64 k ∧ k ≤ t.size ∧ Hid (a = (acc : Int) ∧ acc < 16 ^ k ∧ pv 16 0 bs = pv 16 acc (bs.drop k)))
    (fun _ _ vi => t.size - (intOf vi).toNat)
  case atStart => exact ⟨0, 0, 0, rfl, rfl, rfl, by omega, rfl, by omega, rfl⟩
  case round =>
    obtain ⟨k, acc, a, rfl, rfl, rfl, hk, hh⟩ := hrel
    obtain ⟨ha, hacc, hdec⟩ := hh.out
    clear hh
    by_cases hkn : k < t.size
    · have hpow : 16 ^ k ≤ 16 ^ 13 := Nat.pow_le_pow_right (by omega) (by omega)
      have hpow1 : 16 ^ (k + 1) = 16 ^ k * 16 := Nat.pow_succ ..
      have a0 : 0 ≤ a := by omega
      have icut : a < 4503599627370496 := by
        have : (16 : Nat) ^ 13 = 4503599627370496 := by decide
        omega
      have hc := hB k hkn
      have hdrop : bs.drop k = bs[k]'(by omega) :: bs.drop (k + 1) := List.drop_eq_getElem_cons (by omega)
      have hget : bs.getD k 0 = bs[k]'(by omega) := by simp [List.getD, List.getElem?_eq_getElem (show k < bs.length by omega)]
      have hx : hexd (bs[k]'(by omega)) := hd _ (List.getElem_mem _)
      rw [hdrop] at hdec
      rw [hget] at hc
      generalize bs[k]'(by omega) = c at hc hdec hx
      have hc256 : c.toNat < 256 := c.toNat_lt
      clear hB hdrop hget hd
      have hF : pv 16 acc (c :: bs.drop (k + 1)) = pv 16 (acc * 16 + dv c) (bs.drop (k + 1)) := rfl
      have hdv : dv c < 16 := by unfold dv; unfold hexd at hx; split <;> omega
      have HN : Hid (a * 16 + (dv c : Int) = ((acc * 16 + dv c : Nat) : Int) ∧ acc * 16 + dv c < 16 ^ (k + 1) ∧ pv 16 0 bs = pv 16 (acc * 16 + dv c) (bs.drop (k + 1))) := Lib.hid ⟨by omega, by omega, hdec.trans hF⟩
      clear hpow hpow1 hacc hdec hF ha
      rcases hx with ⟨h1, h2⟩ | ⟨h1, h2⟩
      · have e : (dv c : Int) = (c.toNat : Int) - 48 := by unfold dv; rw [if_pos h2]; omega
        have iov : a * 16 + ((c.toNat : Int) - 48) < 18446744073709551616 := by omega
        rw [e] at HN
        clear e hdv
        go_wp2
        refine ⟨⟨k + 1, acc * 16 + dv c, a * 16 + ((c.toNat : Int) - 48), rfl, (by first | rfl | (congr 1; omega)), (by first | rfl | (congr 1; omega)), by omega, HN⟩, by simp [intOf]; omega⟩
      · have e : (dv c : Int) = (c.toNat : Int) - 55 := by unfold dv; rw [if_neg (by omega)]; omega
        have g1 : 65 ≤ (c.toNat : Int) := by omega
        have g2 : (c.toNat : Int) ≤ 70 := by omega
        have iov : a * 16 + ((c.toNat : Int) - 55) < 18446744073709551616 := by omega
        rw [e] at HN
        clear e hdv h1 h2
        go_wp2_with (go_at_call 235; refine (lower_walk _ (by omega) (by omega) _).mono ?_; rintro e w' ⟨rfl, rfl⟩)
        refine ⟨⟨k + 1, acc * 16 + dv c, a * 16 + ((c.toNat : Int) - 55), rfl, (by first | rfl | (congr 1; omega)), (by first | rfl | (congr 1; omega)), by omega, HN⟩, by simp [intOf]; omega⟩
    · have hkk : k = t.size := by omega
      subst hkk
      have hF : pv 16 acc (bs.drop t.size) = acc := by rw [List.drop_eq_nil_of_le (by omega)]; rfl
      rw [hF] at hdec
      subst ha
      clear hacc hF
      go_wp2
      go_ret2
      exact ⟨rfl, rfl⟩
set_option maxHeartbeats 32000000 in
set_option maxRecDepth 100000 in
theorem parse10_walk (t : ByteArray) (hne : t.size ≠ 0) (hmax : t.size ≤ 14) (hd : ∀ c ∈ t.data.toList, 48 ≤ c.toNat ∧ c.toNat ≤ 57) (w : World) :
    Calls Tryz.prog 215 #[.string t, .int .i64 10, .int .i64 64] w fun e w' => e = .returned (.tuple #[.int .u64 (pv 10 0 t.data.toList), .nilIface]) ∧ w' = Lib.bytesWorld w 5 t := by
  have hemp : t.toList.isEmpty = false := by
    rw [← decide_eq_emptyBytes]
    exact decide_eq_false (fun h => hne (by rw [h]; rfl))
  have hcv := Lib.run_convert_string_bytes (P := Tryz.prog) w 9 270 5 t (u := .string) Tryz.underlying9 Tryz.underlying270 Tryz.underlying5
  have hB : ∀ j, j < t.size → (Lib.bytesWorld w 5 t).cell? ⟨w.heap.size, j, none⟩ = some (.int .u8 (t.data.toList.getD j 0).toNat) := fun j hj => Lib.bytesWorld_cell w 5 t j hj
  obtain ⟨W1, hW1⟩ : ∃ W1, W1 = Lib.bytesWorld w 5 t := ⟨_, rfl⟩
  rw [← hW1] at hcv hB ⊢
  clear hW1
  obtain ⟨bs, hL⟩ : ∃ bs, bs = t.data.toList := ⟨_, rfl⟩
  have hLn : bs.length = t.size := by rw [hL, Lib.size_eq]
  rw [← hL] at hB hd ⊢
  clear hL
  have hmv : IntKind.u64.wrap (IntKind.u64.wrap 18446744073709551616 - 1) = 18446744073709551615 := by
    rw [IntKind.wrap_u64, IntKind.wrap_u64]
    decide
  go_enter Tryz.func215, Tryz.ntmps215
  go_wp2
  go_loop [12, 13, 101] (fun vu vn vi => ∃ (k acc : Nat) (a : Int), vu = .bool false ∧ vn = .int .u64 a ∧ vi = .int .i64 k ∧ k ≤ t.size ∧ Hid (a = (acc : Int) ∧ acc < 10 ^ k ∧ pv 10 0 bs = pv 10 acc (bs.drop k)))
    (fun _ _ vi => t.size - (intOf vi).toNat)
  case atStart => exact ⟨0, 0, 0, rfl, rfl, rfl, by omega, rfl, by omega, rfl⟩
  case round =>
    obtain ⟨k, acc, a, rfl, rfl, rfl, hk, hh⟩ := hrel
    obtain ⟨ha, hacc, hdec⟩ := hh.out
    clear hh
    by_cases hkn : k < t.size
    · have hpow : 10 ^ k ≤ 10 ^ 13 := Nat.pow_le_pow_right (by omega) (by omega)
      have hpow1 : 10 ^ (k + 1) = 10 ^ k * 10 := Nat.pow_succ ..
      have a0 : 0 ≤ a := by omega
      have icut : a < 10000000000000 := by
        have : (10 : Nat) ^ 13 = 10000000000000 := by decide
        omega
      have hc := hB k hkn
      have hdrop : bs.drop k = bs[k]'(by omega) :: bs.drop (k + 1) := List.drop_eq_getElem_cons (by omega)
      have hget : bs.getD k 0 = bs[k]'(by omega) := by simp [List.getD, List.getElem?_eq_getElem (show k < bs.length by omega)]
      have hx : 48 ≤ (bs[k]'(by omega)).toNat ∧ (bs[k]'(by omega)).toNat ≤ 57 := hd _ (List.getElem_mem _)
      rw [hdrop] at hdec
      rw [hget] at hc
      generalize bs[k]'(by omega) = c at hc hdec hx
      have hc256 : c.toNat < 256 := c.toNat_lt
      clear hB hdrop hget hd
      have hF : pv 10 acc (c :: bs.drop (k + 1)) = pv 10 (acc * 10 + dv c) (bs.drop (k + 1)) := rfl
      have hdv : dv c < 10 := by unfold dv; split <;> omega
      have HN : Hid (a * 10 + (dv c : Int) = ((acc * 10 + dv c : Nat) : Int) ∧ acc * 10 + dv c < 10 ^ (k + 1) ∧ pv 10 0 bs = pv 10 (acc * 10 + dv c) (bs.drop (k + 1))) := Lib.hid ⟨by omega, by omega, hdec.trans hF⟩
      clear hpow hpow1 hacc hdec hF ha
      obtain ⟨h1, h2⟩ := hx
      have e : (dv c : Int) = (c.toNat : Int) - 48 := by unfold dv; rw [if_pos h2]; omega
      have iov : a * 10 + ((c.toNat : Int) - 48) < 18446744073709551616 := by omega
      rw [e] at HN
      clear e hdv
      go_wp2
      refine ⟨⟨k + 1, acc * 10 + dv c, a * 10 + ((c.toNat : Int) - 48), rfl, (by first | rfl | (congr 1; omega)), (by first | rfl | (congr 1; omega)), by omega, HN⟩, by simp [intOf]; omega⟩
    · have hkk : k = t.size := by omega
      subst hkk
      have hF : pv 10 acc (bs.drop t.size) = acc := by rw [List.drop_eq_nil_of_le (by omega)]; rfl
      rw [hF] at hdec
      subst ha
      clear hacc hF
      go_wp2
      go_ret2
      exact ⟨rfl, rfl⟩
end Go.Proofs.Tryz.Vc
end

section
namespace Go.Proofs.Tryz.Vc
open Go Go.Proofs Go.RowKit

set_option maxHeartbeats 4000000 in
set_option maxRecDepth 100000 in
/-- A text of digits and capitals is its own upper case. -/
theorem upper_walk (s : ByteArray) (hmax : s.size ≤ 1000) (hd : ∀ i (h : i < s.size), s[i].toNat < 97) (w : World) :
    Calls Tryz.prog 186 #[.string s] w fun e w' => e = .returned (.string s) ∧ w = w' := by
  go_enter Tryz.func186, Tryz.ntmps186
  go_wp2
  go_loop [3, 4, 5] (fun x y i => ∃ k : Nat, x = .bool true ∧ y = .bool false ∧ i = .int .i64 k ∧ k ≤ s.size) (fun _ _ i => s.size - (intOf i).toNat)
  case atStart => exact ⟨0, rfl, rfl, rfl, by omega⟩
  case round =>
    obtain ⟨k, rfl, rfl, rfl, hk⟩ := hrel
    by_cases hlt : k < s.size
    · have hc := hd k hlt
      go_wp2
      go_round
      case rel => exact ⟨k + 1, rfl, rfl, by go_num, by omega⟩
      case measure => simp [intOf]; omega
    · go_wp2
      go_ret
      exact ⟨rfl, rfl⟩
end Go.Proofs.Tryz.Vc
end

section
namespace Go.Proofs.Tryz.Vc
open Go Go.Proofs Go.RowKit Go.Lib
set_option maxHeartbeats 1000000 in
set_option maxRecDepth 100000 in
theorem index_walk (s : ByteArray) (c : Int) (w : World) : Calls Tryz.prog 224 #[.string s, .int .u8 c] w fun e w' => e = .returned (.int .i64 (Lib.indexByte s.data.toList c.toNat.toUInt8)) ∧ w' = w := by
  go_enter Tryz.func224, Tryz.ntmps224
  go_wp2
  rw [run_callFunc_extern Tryz.func248 (by kernel_rfl) (by kernel_rfl) (by kernel_rfl) (e := Extern.BytealgIndexByte.indexByte) (by kernel_rfl), Lib.run_indexByteString]
  simp only [Result.andThen]
  rw [Oper.upon_value]
  go_wp2
  go_ret
  exact ⟨rfl, rfl⟩
end Go.Proofs.Tryz.Vc
end

