/- An event's line, and a kind's word. -/
import Derived.Test.YtbnaehfgpilicaaDoorHealthD
import Derived.Test.YtbnaehfgpilicaaDoorHealthShelf
namespace Go.Proofs.YtbnaehfgpilicaaDoor
open Go.RowKit

theorem tabIs_below {P : Program} {w w' : World} {name : String} {k : IntKind} {zs : List Int} (h : Lib.TabIs P w name k zs) (hb : Below w.heap.size w w') : Lib.TabIs P w' name k zs := by
  unfold Lib.TabIs World.var? at *
  cases hg : P.globalNamed name with
  | none => simp [hg] at h
  | some g =>
    simp only [hg, Option.bind_some] at h ⊢
    have hlt : g < w.heap.size := by
      rcases Nat.lt_or_ge g w.heap.size with h' | h'
      · exact h'
      · rw [Array.getElem?_eq_none h'] at h; simp at h
    rw [hb.block g hlt]
    exact h
theorem below_grow' (B : Nat) (w : World) (hB : B ≤ w.heap.size) (k : Nat) (os : Array Obj) : Below B w (Sort.grow (w.drewN k) os) :=
  ⟨rfl, rfl, rfl, by simp [Sort.grow, World.drewN], fun i hi => by show (w.heap ++ os)[i]? = _; rw [Array.getElem?_append_left (by omega)]⟩
/-- n is told in digits, from w on. -/
def ItoaAt (w : World) (n : Int) : Prop := ∀ w', Below w.heap.size w w' → Calls Tryd.prog 29 #[.int .i64 n] w' fun r w'' => r = .returned (.string ⟨(Lib.itoa n).toArray⟩) ∧ Below w'.heap.size w' w''
theorem itoa_small (w : World) (n : Int) (h0 : 0 ≤ n) (h1 : n < 100) : ItoaAt w n := by
  obtain ⟨i, rfl⟩ := Int.eq_ofNat_of_zero_le h0
  intro w' _
  refine (Tryd.strconv_Itoa_small i (by omega) w').mono ?_
  rintro r w'' ⟨rfl, rfl⟩
  exact ⟨by rw [Lib.itoa_nonneg], Below.refl _ _⟩
theorem itoa_tab (w : World) (n : Int) (h0 : -9223372036854775808 ≤ n) (h1 : n ≤ 9223372036854775807) (ht : Lib.TabIs Tryd.prog w "internal/strconv.uint64pow10" .u64 Lib.pow10Tab) : ItoaAt w n := by
  intro w' hb
  refine (Tryd.strconv_Itoa n h0 h1 w' (tabIs_below ht hb)).mono ?_
  rintro r w'' ⟨rfl, k, os, rfl⟩
  exact ⟨rfl, below_grow' _ _ (Nat.le_refl _) _ _⟩
theorem ItoaAt.below {w w' : World} {n : Int} (h : ItoaAt w n) (hb : Below w.heap.size w w') : ItoaAt w' n := fun _ hb' => h _ (hb.trans (hb'.mono hb.size))
def wordB (k : Int) : ByteArray :=
  if k = 0 then ⟨#[101, 120, 112, 105, 114, 101, 100]⟩ else if k = 1 then ⟨#[111, 118, 101, 114, 102, 108, 111, 119]⟩ else if k = 2 then ⟨#[102, 108, 117, 115, 104, 101, 100]⟩
  else if k = 3 then ⟨#[102, 97, 117, 108, 116]⟩ else if k = 4 then ⟨#[115, 116, 97, 114, 116, 101, 100]⟩ else if k = 5 then ⟨#[104, 97, 108, 116, 101, 100]⟩ else ⟨#[]⟩
theorem wordB_no (k : Int) (h : ¬ okK k) : wordB k = ⟨#[]⟩ := by
  unfold okK at h
  unfold wordB
  repeat rw [if_neg (by omega)]
theorem index_word (k : Int) (hk : okK k) (w : World) : (Instr.index 53 (.agg #[.string ⟨#[101, 120, 112, 105, 114, 101, 100]⟩, .string ⟨#[111, 118, 101, 114, 102, 108, 111, 119]⟩, .string ⟨#[102, 108, 117, 115, 104, 101, 100]⟩, .string ⟨#[102, 97, 117, 108, 116]⟩, .string ⟨#[115, 116, 97, 114, 116, 101, 100]⟩, .string ⟨#[104, 97, 108, 116, 101, 100]⟩]) (.int .i64 k)).run Tryd.prog w = .ok (.string (wordB k)) w := by
  unfold okK at hk
  rcases (show k = 0 ∨ k = 1 ∨ k = 2 ∨ k = 3 ∨ k = 4 ∨ k = 5 by omega) with rfl | rfl | rfl | rfl | rfl | rfl <;> kernel_rfl
theorem word_any (k : Int) (w : World) : Calls Tryd.prog 12 #[.int .i64 k] w fun e w' => e = .returned (.string (wordB k)) ∧ w = w' := by
  by_cases hk : okK k
  · have HI := Lib.hid (is_yes k w hk)
    have hix := index_word k hk w
    generalize wordB k = s at *
    clear hk
    go_enter Tryd.func12, Tryd.ntmps12
    go_wp2_with (go_at_call 28; refine (HI.out).mono ?_; rintro e w' ⟨rfl, rfl⟩)
    go_ret
    exact ⟨rfl, rfl⟩
  · rw [wordB_no k hk]
    have HI := Lib.hid (is_no k w hk)
    clear hk
    go_enter Tryd.func12, Tryd.ntmps12
    go_wp2_with (go_at_call 28; refine (HI.out).mono ?_; rintro e w' ⟨rfl, rfl⟩)
    go_ret
    exact ⟨rfl, rfl⟩
theorem rword_any (k : Int) (w : World) : Calls Tryd.prog 13 #[.int .i64 k] w fun e w' => e = .returned (.string (wordB k)) ∧ Below w.heap.size w w' := by
  by_cases hk : okK k
  · unfold okK at hk
    rcases (show k = 0 ∨ k = 1 ∨ k = 2 ∨ k = 3 ∨ k = 4 ∨ k = 5 by omega) with rfl | rfl | rfl | rfl | rfl | rfl
    all_goals
      clear hk
      go_enter Tryd.func13, Tryd.ntmps13
      go_wp2
      go_ret
      exact ⟨rfl, below_alloc (Nat.le_refl _) _⟩
  · rw [wordB_no k hk]
    unfold okK at hk
    by_cases h0 : k < 0
    · have hd : decide (k < 0) = true := by simp [h0]
      go_enter Tryd.func13, Tryd.ntmps13
      go_wp2
      go_ret
      exact ⟨rfl, Below.refl _ _⟩
    · have h1 : 5 < k := by omega
      have h2 : ¬ k < 0 := h0
      clear hk h0
      go_enter Tryd.func13, Tryd.ntmps13
      go_wp2
      go_ret
      exact ⟨rfl, Below.refl _ _⟩
end Go.Proofs.YtbnaehfgpilicaaDoor
