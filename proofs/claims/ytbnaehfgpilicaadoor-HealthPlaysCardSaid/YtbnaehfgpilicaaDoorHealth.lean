/- A log: its state, and its functions' contracts. -/
import Derived.Test.YtbnaehfgpilicaaDoorHealthP
import Derived.Deep.RegionHeld3
import Derived.Deep.MidRow
namespace Go.Proofs.YtbnaehfgpilicaaDoor
open Go.RowKit

theorem infoEv : (Tryd.prog.info? 23).map (fun i => (i.zero, i.size, i.bytes)) = some (some (.agg #[.int .i64 0, .int .i64 0, .int .i64 0, .int .i64 0, .int .i64 0]), 5, 40) := by kernel_rfl
/-- The log at b: l was told; n, q: what it counted. -/
structure LogG (w : World) (b : Nat) (l : List Ev) (n : Nat) (q : Nat → Nat) : Prop where
  old : ∀ i, i < 64 → ∃ e, EvAt w b (i * 5) e
  ev : ∀ j (h : j < l.length), l.length ≤ j + 64 → EvAt w b (j % 64 * 5) l[j]
  told : w.cell? ⟨b, 320, none⟩ = some (.int .i64 (n : Int))
  cnt : ∀ k, k < 6 → w.cell? ⟨b, 321 + k, none⟩ = some (.int .i64 (q k : Int))
  fr : ∀ o, w.frozen? ⟨b, o, none⟩ = false
def LogAt (w : World) (b : Nat) (l : List Ev) : Prop := LogG w b l l.length fun k => cntK l k
section
variable {w w' : World} {b n : Nat} {l : List Ev} {q : Nat → Nat}
theorem LogG.keep (h : LogG w b l n q) (hk : w'.heap[b]? = w.heap[b]?) : LogG w' b l n q := by
  have hc : ∀ o, w'.cell? ⟨b, o, none⟩ = w.cell? ⟨b, o, none⟩ := fun o => World.cell?_of_block (a := ⟨b, o, none⟩) hk
  have hf : ∀ o, w'.frozen? ⟨b, o, none⟩ = w.frozen? ⟨b, o, none⟩ := fun o => World.frozen?_of_block (a := ⟨b, o, none⟩) hk
  exact ⟨fun i hi => (h.old i hi).imp fun e he => he.keep hk, fun j hj h6 => (h.ev j hj h6).keep hk, (hc _).trans h.told, fun k hk => (hc _).trans (h.cnt k hk), fun o => (hf _).trans (h.fr o)⟩
theorem LogG.lt (h : LogG w b l n q) : b < w.heap.size := World.block_lt_of_cell? _ _ h.told
theorem LogG.below {B : Nat} (h : LogG w b l n q) (hb : Below B w w') (hB : b < B) : LogG w' b l n q := h.keep (hb.block b hB)
def put5 (w : World) (b o : Nat) (e : Ev) : World := ((((w.setCell ⟨b, o, none⟩ (.int .i64 e.k)).setCell ⟨b, o + 1, none⟩ (.int .i64 e.t)).setCell ⟨b, o + 2, none⟩ (.int .i64 e.p)).setCell ⟨b, o + 3, none⟩ (.int .i64 e.c)).setCell ⟨b, o + 4, none⟩ (.int .i64 e.n)
theorem put5_off (w : World) (b o : Nat) (e : Ev) (i : Nat) (hi : i < o ∨ o + 5 ≤ i) : (put5 w b o e).cell? ⟨b, i, none⟩ = w.cell? ⟨b, i, none⟩ := by
  unfold put5
  rw [cell_off (by omega), cell_off (by omega), cell_off (by omega), cell_off (by omega), cell_off (by omega)]
theorem put5_at {e0 : Ev} {o : Nat} (h : EvAt w b o e0) (e : Ev) : EvAt (put5 w b o e) b o e := by
  unfold put5
  refine ⟨?_, ?_, ?_, ?_, ?_⟩
  · rw [cell_off (by omega), cell_off (by omega), cell_off (by omega), cell_off (by omega)]; exact World.cell?_setCell_same _ _ _ h.k
  · rw [cell_off (by omega), cell_off (by omega), cell_off (by omega)]; exact World.cell?_setCell_same _ _ _ ((cell_off (by omega)).trans h.t)
  · rw [cell_off (by omega), cell_off (by omega)]; exact World.cell?_setCell_same _ _ _ ((cell_off (by omega)).trans ((cell_off (by omega)).trans h.p))
  · rw [cell_off (by omega)]; exact World.cell?_setCell_same _ _ _ ((cell_off (by omega)).trans ((cell_off (by omega)).trans ((cell_off (by omega)).trans h.c)))
  · exact World.cell?_setCell_same _ _ _ ((cell_off (by omega)).trans ((cell_off (by omega)).trans ((cell_off (by omega)).trans ((cell_off (by omega)).trans h.n))))
theorem put5_far {e0 e : Ev} {o o' : Nat} (h : EvAt w b o' e0) (ho : o' + 5 ≤ o ∨ o + 5 ≤ o') : EvAt (put5 w b o e) b o' e0 :=
  ⟨(put5_off _ _ _ _ _ (by omega)).trans h.k, (put5_off _ _ _ _ _ (by omega)).trans h.t, (put5_off _ _ _ _ _ (by omega)).trans h.p, (put5_off _ _ _ _ _ (by omega)).trans h.c, (put5_off _ _ _ _ _ (by omega)).trans h.n⟩
theorem put5_fr (w : World) (b o : Nat) (e : Ev) (a : Addr) : (put5 w b o e).frozen? a = w.frozen? a := by simp [put5]
theorem LogG.put (h : LogG w b l l.length q) (e : Ev) : LogG (put5 w b (l.length % 64 * 5) e) b (l ++ [e]) l.length q := by
  have h64 : l.length % 64 < 64 := Nat.mod_lt _ (by omega)
  obtain ⟨e0, he0⟩ := h.old _ h64
  refine ⟨fun i hi => ?_, fun j hj h6 => ?_, (put5_off _ _ _ _ _ (by omega)).trans h.told, fun k hk => (put5_off _ _ _ _ _ (by omega)).trans (h.cnt k hk), fun o => (put5_fr _ _ _ _ _).trans (h.fr o)⟩
  · by_cases hi' : i = l.length % 64
    · subst hi'; exact ⟨e, put5_at he0 e⟩
    · exact (h.old i hi).imp fun e' he' => put5_far he' (by omega)
  · rw [List.length_append, List.length_singleton] at hj h6
    by_cases hj' : j = l.length
    · subst hj'
      rw [show (l ++ [e])[l.length] = e by simp]
      exact put5_at he0 e
    · have hjl : j < l.length := by omega
      rw [List.getElem_append_left hjl]
      exact put5_far (h.ev j hjl (by omega)) (by omega)
theorem LogG.set_told (h : LogG w b l n q) (m : Nat) : LogG (w.setCell ⟨b, 320, none⟩ (.int .i64 (m : Int))) b l m q := by
  have ev : ∀ o e, o + 5 ≤ 320 → EvAt w b o e → EvAt (w.setCell ⟨b, 320, none⟩ (.int .i64 (m : Int))) b o e := fun o e ho he =>
    ⟨(cell_off (by omega)).trans he.k, (cell_off (by omega)).trans he.t, (cell_off (by omega)).trans he.p, (cell_off (by omega)).trans he.c, (cell_off (by omega)).trans he.n⟩
  exact ⟨fun i hi => (h.old i hi).imp fun e he => ev _ _ (by omega) he, fun j hj h6 => ev _ _ (by have := Nat.mod_lt j (show 64 > 0 by omega); omega) (h.ev j hj h6), World.cell?_setCell_same _ _ _ h.told, fun k hk => (cell_off (by omega)).trans (h.cnt k hk), fun o => by simp [h.fr]⟩
theorem LogG.set_cnt (h : LogG w b l n q) (k m : Nat) (hk : k < 6) : LogG (w.setCell ⟨b, 321 + k, none⟩ (.int .i64 (m : Int))) b l n fun i => if i = k then m else q i := by
  have ev : ∀ o e, o + 5 ≤ 320 → EvAt w b o e → EvAt (w.setCell ⟨b, 321 + k, none⟩ (.int .i64 (m : Int))) b o e := fun o e ho he =>
    ⟨(cell_off (by omega)).trans he.k, (cell_off (by omega)).trans he.t, (cell_off (by omega)).trans he.p, (cell_off (by omega)).trans he.c, (cell_off (by omega)).trans he.n⟩
  refine ⟨fun i hi => (h.old i hi).imp fun e he => ev _ _ (by omega) he, fun j hj h6 => ev _ _ (by have := Nat.mod_lt j (show 64 > 0 by omega); omega) (h.ev j hj h6), (cell_off (by omega)).trans h.told, fun i hi => ?_, fun o => by simp [h.fr]⟩
  by_cases e : i = k
  · subst e; rw [if_pos rfl]; exact World.cell?_setCell_same _ _ _ (h.cnt i hi)
  · rw [if_neg e]; exact (cell_off (by omega)).trans (h.cnt i hi)
theorem LogG.fin {e : Ev} (h : LogG w b (l ++ [e]) (l.length + 1) fun i => if i = e.k.toNat then cntK l e.k + 1 else cntK l i) (hk : okK e.k) : LogAt w b (l ++ [e]) := by
  unfold okK at hk
  refine ⟨h.old, h.ev, by rw [List.length_append]; exact h.told, fun k hk' => ?_, h.fr⟩
  rw [h.cnt k hk', cntK_snoc]
  by_cases e' : k = e.k.toNat
  · subst e'
    rw [if_pos rfl, Int.toNat_of_nonneg hk.1, if_pos rfl]
  · rw [if_neg e', if_neg (by omega)]
    simp
end
/-! ### The small functions -/
theorem is_yes (k : Int) (w : World) (h : okK k) : Calls Tryd.prog 28 #[.int .i64 k] w fun e w' => e = .returned (.bool true) ∧ w = w' := by
  obtain ⟨h0, h1⟩ := h
  go_enter Tryd.func28, Tryd.ntmps28
  go_wp2
  go_ret
  exact ⟨by first | rfl | (simp; done) | (simp; omega), rfl⟩
theorem is_no (k : Int) (w : World) (h : ¬ okK k) : Calls Tryd.prog 28 #[.int .i64 k] w fun e w' => e = .returned (.bool false) ∧ w = w' := by
  by_cases h0 : 0 ≤ k
  · have h1 : ¬ k < 6 := fun h1 => h ⟨h0, h1⟩
    clear h
    go_enter Tryd.func28, Tryd.ntmps28
    go_wp2
    go_ret
    exact ⟨by first | rfl | (simp; done) | (simp; omega), rfl⟩
  · have h' : decide (0 ≤ k) = false := by simpa using h0
    clear h
    go_enter Tryd.func28, Tryd.ntmps28
    go_wp2
    go_ret
    exact ⟨rfl, rfl⟩
theorem told_any {w : World} {b : Nat} {l : List Ev} (h : LogAt w b l) : Calls Tryd.prog 21 #[.pointer (some ⟨b, 0, none⟩)] w fun e w' => e = .returned (.int .i64 l.length) ∧ w = w' := by
  have h0 := h.told
  clear h
  go_enter Tryd.func21, Tryd.ntmps21
  go_wp2
  go_ret
  exact ⟨rfl, rfl⟩
theorem told_nil (w : World) : Calls Tryd.prog 21 #[.pointer none] w fun e w' => e = .returned (.int .i64 0) ∧ w = w' := by
  go_enter Tryd.func21, Tryd.ntmps21
  go_wp2
  go_ret
  exact ⟨rfl, rfl⟩
theorem gone_any {w : World} {b : Nat} {l : List Ev} (h : LogAt w b l) (hl : l.length ≤ 100000) : Calls Tryd.prog 22 #[.pointer (some ⟨b, 0, none⟩)] w fun e w' => e = .returned (.int .i64 (goneOf l)) ∧ w = w' := by
  have HT := Lib.hid (told_any h)
  obtain ⟨g, hg⟩ : ∃ g : Nat, g = goneOf l := ⟨_, rfl⟩
  have hg' : g = l.length - 64 := hg
  rw [← hg]
  clear h hg
  by_cases h6 : l.length ≤ 64
  · obtain rfl : g = 0 := by omega
    clear hg'
    go_enter Tryd.func22, Tryd.ntmps22
    go_wp2_with (go_at_call 21; refine (HT.out).mono ?_; rintro e w' ⟨rfl, rfl⟩)
    all_goals (go_ret; exact ⟨by first | rfl | (simp; done) | (simp; omega), rfl⟩)
  · have hgi : (l.length : Int) - 64 = (g : Int) := by omega
    clear hg'
    have HG := Lib.hid hgi
    clear hgi
    go_enter Tryd.func22, Tryd.ntmps22
    go_wp2_with (go_at_call 21; refine (HT.out).mono ?_; rintro e w' ⟨rfl, rfl⟩)
    go_ret
    exact ⟨by have := HG.out; simp; omega, rfl⟩
theorem gone_nil (w : World) : Calls Tryd.prog 22 #[.pointer none] w fun e w' => e = .returned (.int .i64 0) ∧ w = w' := by
  go_enter Tryd.func22, Tryd.ntmps22
  go_wp2_with (go_at_call 21; refine (told_nil _).mono ?_; rintro e w' ⟨rfl, rfl⟩)
  go_ret
  exact ⟨rfl, rfl⟩
theorem count_yes {w : World} {b : Nat} {l : List Ev} (h : LogAt w b l) (k : Int) (hk : okK k) : Calls Tryd.prog 20 #[.pointer (some ⟨b, 0, none⟩), .int .i64 k] w fun e w' => e = .returned (.int .i64 (cntK l k)) ∧ w = w' := by
  have hk' := hk
  obtain ⟨k0, k1⟩ := hk'
  obtain ⟨j, rfl⟩ := Int.eq_ofNat_of_zero_le k0
  have h0 := h.cnt j (by omega)
  have HI := Lib.hid (is_yes (j : Int) w hk)
  generalize cntK l (j : Int) = c at *
  clear h hk
  go_enter Tryd.func20, Tryd.ntmps20
  go_wp2_with (go_at_call 28; refine (HI.out).mono ?_; rintro e w' ⟨rfl, rfl⟩)
  go_ret
  exact ⟨rfl, rfl⟩
theorem count_no (v : Option Nat) (k : Int) (w : World) (hk : ¬ okK k) : Calls Tryd.prog 20 #[.pointer (v.map fun b => ⟨b, 0, none⟩), .int .i64 k] w fun e w' => e = .returned (.int .i64 0) ∧ w = w' := by
  have HI := Lib.hid (is_no k w hk)
  clear hk
  cases v
  · go_enter Tryd.func20, Tryd.ntmps20
    go_wp2
    go_ret
    exact ⟨rfl, rfl⟩
  · go_enter Tryd.func20, Tryd.ntmps20
    go_wp2_with (go_at_call 28; refine (HI.out).mono ?_; rintro e w' ⟨rfl, rfl⟩)
    go_ret
    exact ⟨rfl, rfl⟩
theorem count_nil (k : Int) (w : World) : Calls Tryd.prog 20 #[.pointer none, .int .i64 k] w fun e w' => e = .returned (.int .i64 0) ∧ w = w' := by
  go_enter Tryd.func20, Tryd.ntmps20
  go_wp2
  go_ret
  exact ⟨rfl, rfl⟩
end Go.Proofs.YtbnaehfgpilicaaDoor
