/- The digits of a number: the library's Itoa, and the reference's Digits. (As in the health seat.) -/
import Derived.Test.YtkamcjejongmbaaDoorKit
import Derived.Test.YtkamcjejongmbaaDoorCellShelf
import Derived.Lib.ItoaLen
namespace Go.Proofs.YtkamcjejongmbaaDoor
open Go.RowKit

theorem tabIs_below {P : Program} {w w' : World} {name : String} {k : IntKind} {zs : List Int} (h : Lib.TabIs P w name k zs) (hb : Below w.heap.size w w') : Lib.TabIs P w' name k zs := by
  unfold Lib.TabIs World.var? at *
  cases hg : P.globalNamed name with
  | none => simp [hg] at h
  | some g =>
    simp only [hg, Option.bind_some] at h ⊢
    have hlt : g < w.heap.size := by
      rcases Nat.lt_or_ge g w.heap.size with h' | h'
      · exact h'
      · rw [Array.getElem?_eq_none h'] at h; simp at h
    rw [hb.block g hlt]
    exact h
theorem below_grow' (B : Nat) (w : World) (hB : B ≤ w.heap.size) (k : Nat) (os : Array Obj) : Below B w (Sort.grow (w.drewN k) os) :=
  ⟨rfl, rfl, rfl, by simp [Sort.grow, World.drewN], fun i hi => by show (w.heap ++ os)[i]? = _; rw [Array.getElem?_append_left (by omega)]⟩
/-- n is told in digits, from w on. -/
def ItoaAt (w : World) (n : Int) : Prop := ∀ w', Below w.heap.size w w' → Calls Tryd.prog 40 #[.int .i64 n] w' fun r w'' => r = .returned (.string ⟨(Lib.itoa n).toArray⟩) ∧ Below w'.heap.size w' w''
theorem itoa_small (w : World) (n : Int) (h0 : 0 ≤ n) (h1 : n < 100) : ItoaAt w n := by
  obtain ⟨i, rfl⟩ := Int.eq_ofNat_of_zero_le h0
  intro w' _
  refine (Tryd.strconv_Itoa_small i (by omega) w').mono ?_
  rintro r w'' ⟨rfl, rfl⟩
  exact ⟨by rw [Lib.itoa_nonneg], Below.refl _ _⟩
theorem itoa_tab (w : World) (n : Int) (h0 : -9223372036854775808 ≤ n) (h1 : n ≤ 9223372036854775807) (ht : Lib.TabIs Tryd.prog w "internal/strconv.uint64pow10" .u64 Lib.pow10Tab) : ItoaAt w n := by
  intro w' hb
  refine (Tryd.strconv_Itoa n h0 h1 w' (tabIs_below ht hb)).mono ?_
  rintro r w'' ⟨rfl, k, os, rfl⟩
  exact ⟨rfl, below_grow' _ _ (Nat.le_refl _) _ _⟩
theorem ItoaAt.below {w w' : World} {n : Int} (h : ItoaAt w n) (hb : Below w.heap.size w w') : ItoaAt w' n := fun _ hb' => h _ (hb.trans (hb'.mono hb.size))
def dgs : ByteArray := ⟨#[48, 49, 50, 51, 52, 53, 54, 55, 56, 57]⟩
theorem slice_digit (d : Nat) (hd : d < 10) (w : World) : (Instr.sliceAt 9 (.string ⟨#[48, 49, 50, 51, 52, 53, 54, 55, 56, 57]⟩) (some (.int .i64 (d : Int))) (some (.int .i64 ((d : Int) + 1))) none).run Tryd.prog w = .ok (.string ⟨#[UInt8.ofNat (48 + d)]⟩) w := by
  rcases (show d = 0 ∨ d = 1 ∨ d = 2 ∨ d = 3 ∨ d = 4 ∨ d = 5 ∨ d = 6 ∨ d = 7 ∨ d = 8 ∨ d = 9 by omega) with rfl | rfl | rfl | rfl | rfl | rfl | rfl | rfl | rfl | rfl <;> kernel_rfl
theorem dec_small (m : Nat) (h : m < 10) : Lib.decDigits m = [UInt8.ofNat (48 + m)] := by rw [Lib.decDigits, dif_pos h]
theorem dec_big (m : Nat) (h : ¬ m < 10) : Lib.decDigits m = Lib.decDigits (m / 10) ++ [UInt8.ofNat (48 + m % 10)] := by rw [Lib.decDigits, dif_neg h]
theorem bytes_of {b : ByteArray} {l : List UInt8} (h : l = b.data.toList) : Value.string b = .string ⟨l.toArray⟩ := by
  subst h; cases b; rfl
theorem cons_bytes (x : UInt8) (b : ByteArray) : ((⟨#[x]⟩ : ByteArray) ++ b).data.toList = x :: b.data.toList := by
  simp [ByteArray.data_append]
theorem dec_len (u : Nat) (hu : (u : Int) ≤ 9223372036854775807) : (Lib.decDigits u).length ≤ 20 := by
  rw [Lib.decDigits_length]
  exact Lib.nDigits_le20 u (by omega)
theorem size_list (b : ByteArray) : b.size = b.data.toList.length := by rw [Array.length_toList]; rfl
set_option maxRecDepth 100000 in
theorem digits_nat (u : Nat) (hu : (u : Int) ≤ 9223372036854775807) (w : World) :
    Calls Tryd.prog 33 #[.int .i64 u] w fun e w' => e = .returned (.string ⟨(Lib.decDigits u).toArray⟩) ∧ w = w' := by
  have h0 : ((u : Int) == -9223372036854775808) = false := beq_eq_false_iff_ne.2 (by omega)
  have h1 : ¬ (u : Int) < 0 := by omega
  go_enter Tryd.func33, Tryd.ntmps33
  go_wp2_with fail
  go_loop [0, 3] (fun n s => ∃ (m : Nat) (b : ByteArray), m ≤ u ∧ n = .int .i64 m ∧ s = .string b ∧ Lib.decDigits u = Lib.decDigits m ++ b.data.toList) (fun n _ => (intOf n).toNat)
  case atStart => exact ⟨u, ⟨#[]⟩, Nat.le_refl _, rfl, rfl, by simp⟩
  case round =>
    obtain ⟨m, b, hm, rfl, rfl, hd⟩ := hrel
    have HD := Lib.hid hd
    have hbs : ¬ 9223372036854775807 < 1 + b.size := by
      have h1 := dec_len u hu
      rw [hd, List.length_append, ← size_list] at h1
      omega
    obtain ⟨d, hdd⟩ : ∃ d, d = m % 10 := ⟨_, rfl⟩
    obtain ⟨q, hq⟩ : ∃ q, q = m / 10 := ⟨_, rfl⟩
    have hmb : (m : Int) ≤ 9223372036854775807 := by omega
    have m0 : (0 : Int) ≤ (m : Int) := by omega
    have hsl := fun W => slice_digit d (by omega) W
    have d0 : (0 : Int) ≤ (d : Int) := by omega
    have d9 : (d : Int) < 10 := by omega
    have ht : (m : Int).tmod 10 = (d : Int) := by rw [Int.tmod_eq_emod_of_nonneg m0]; omega
    have ht' : (m : Int) % 10 = (d : Int) := by omega
    have hv : (m : Int).tdiv 10 = (q : Int) := by rw [Int.tdiv_eq_ediv_of_nonneg m0]; omega
    have hv' : (m : Int) / 10 = (q : Int) := by omega
    have w0 : IntKind.i64.wrap (d : Int) = (d : Int) := by rw [IntKind.wrap_i64]; omega
    have w1 : IntKind.i64.wrap (q : Int) = (q : Int) := by rw [IntKind.wrap_i64]; omega
    have HQ := Lib.hid (And.intro hdd hq)
    obtain ⟨x, hx⟩ : ∃ x, x = UInt8.ofNat (48 + d) := ⟨_, rfl⟩
    rw [← hx] at hsl
    have HX := Lib.hid hx
    clear hx
    by_cases h10 : m < 10
    · have hq0 : q = 0 := by omega
      subst hq0
      have HF := Lib.hid (show Lib.decDigits u = ((⟨#[x]⟩ : ByteArray) ++ b).data.toList from by
        rw [HD.out, dec_small m h10, cons_bytes, HX.out, HQ.out.1, Nat.mod_eq_of_lt h10]; rfl)
      clear hd hdd hq h10 HD HQ hu h0 h1
      go_wp2_with fail
      go_ret
      exact ⟨congrArg Ending.returned (bytes_of HF.out), rfl⟩
    · have hqn : ((q : Int) == 0) = false := beq_eq_false_iff_ne.2 (by omega)
      have hlt : q < m := by omega
      have HF := Lib.hid (show Lib.decDigits u = Lib.decDigits q ++ ((⟨#[x]⟩ : ByteArray) ++ b).data.toList from by
        rw [HD.out, dec_big m h10, cons_bytes, HX.out, HQ.out.1, HQ.out.2]; simp)
      have hqu : q ≤ u := by omega
      clear hd hdd hq h10 HD HQ hu h0 h1
      go_wp2_with fail
      go_round
      case rel => exact ⟨q, _, hqu, rfl, rfl, HF.out⟩
      case measure => simp [intOf]; omega
set_option maxRecDepth 100000 in
theorem digits_any (n : Int) (h0 : -9223372036854775808 ≤ n) (h1 : n ≤ 9223372036854775807) (w : World) :
    Calls Tryd.prog 33 #[.int .i64 n] w fun e w' => e = .returned (.string ⟨(Lib.itoa n).toArray⟩) ∧ w = w' := by
  by_cases hn : 0 ≤ n
  · obtain ⟨u, rfl⟩ := Int.eq_ofNat_of_zero_le hn
    rw [Lib.itoa_nonneg]
    exact digits_nat u h1 w
  · by_cases hm : n = -9223372036854775808
    · subst hm
      have e : (Lib.itoa (-9223372036854775808)).toArray = #[45, 57, 50, 50, 51, 51, 55, 50, 48, 51, 54, 56, 53, 52, 55, 55, 53, 56, 48, 56] := by
        simp [Lib.itoa, Lib.decDigits]
      rw [e]
      go_enter Tryd.func33, Tryd.ntmps33
      go_wp2_with fail
      go_ret
      exact ⟨rfl, rfl⟩
    · obtain ⟨u, rfl⟩ : ∃ u : Nat, n = -(u : Int) := ⟨n.natAbs, by omega⟩
      have hu : (u : Int) ≤ 9223372036854775807 := by omega
      have hu1 : 1 ≤ u := by omega
      rw [Lib.itoa_neg u hu1]
      have HD := Lib.hid (digits_nat u hu w)
      have HE := Lib.hid (show (45 : UInt8) :: Lib.decDigits u = ((⟨#[45]⟩ : ByteArray) ++ ⟨(Lib.decDigits u).toArray⟩).data.toList from by rw [cons_bytes])
      have b0 : (-(u : Int) == -9223372036854775808) = false := beq_eq_false_iff_ne.2 hm
      have b1 : -(u : Int) < 0 := by omega
      have w0 : IntKind.i64.wrap (u : Int) = (u : Int) := by rw [IntKind.wrap_i64]; omega
      have hbs : ¬ 9223372036854775807 < 1 + (Lib.decDigits u).length := by have := dec_len u hu; omega
      clear hm h0 h1 hn
      generalize Lib.decDigits u = l at *
      go_enter Tryd.func33, Tryd.ntmps33
      go_wp2_with fail
      refine HD.out.mono ?_
      rintro e w' ⟨rfl, rfl⟩
      go_wp2_with fail
      go_ret
      exact ⟨congrArg Ending.returned (bytes_of HE.out), rfl⟩
def numB (n : Int) : ByteArray := ⟨(Lib.itoa n).toArray⟩
theorem num_len (n : Int) (h0 : -9223372036854775808 ≤ n) (h1 : n ≤ 9223372036854775807) : (numB n).data.toList.length ≤ 21 := by
  have := Lib.itoa_length_le n h0 h1
  simpa [numB] using this
theorem num_size (n : Int) (h0 : -9223372036854775808 ≤ n) (h1 : n ≤ 9223372036854775807) : (numB n).size ≤ 21 := by rw [size_list]; exact num_len n h0 h1
theorem digits_q (n : Int) (h0 : -9223372036854775808 ≤ n) (h1 : n ≤ 9223372036854775807) (w : World) :
    Calls Tryd.prog 33 #[.int .i64 n] w fun e w' => e = .returned (.string (numB n)) ∧ w' = w :=
  (digits_any n h0 h1 w).mono fun _ _ ⟨h, k⟩ => ⟨h, k.symm⟩
end Go.Proofs.YtkamcjejongmbaaDoor
