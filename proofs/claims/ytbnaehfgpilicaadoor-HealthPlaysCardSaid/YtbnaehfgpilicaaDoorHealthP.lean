/- Events: rows of them; what a log has of those that were told. -/
import Derived.Test.YtbnaehfgpilicaaDoorKit
namespace Go.Proofs.YtbnaehfgpilicaaDoor
open Go.RowKit

structure Ev where
  k : Int
  t : Int
  p : Int
  c : Int
  n : Int
def Ev.same (a b : Ev) : Bool := a.k == b.k && (a.t == b.t && (a.p == b.p && (a.c == b.c && a.n == b.n)))
theorem same_iff {a b : Ev} : a.same b = true ↔ a = b := by
  cases a; cases b; simp [Ev.same]
theorem same_refl (a : Ev) : a.same a = true := same_iff.2 rfl
def Ev.cells (e : Ev) : Array Value := #[.int .i64 e.k, .int .i64 e.t, .int .i64 e.p, .int .i64 e.c, .int .i64 e.n]
def flat (l : List Ev) : List Value := l.flatMap fun e => e.cells.toList
theorem flat_snoc (l : List Ev) (e : Ev) : flat (l ++ [e]) = flat l ++ e.cells.toList := by simp [flat]
theorem flat_len (l : List Ev) : (flat l).length = l.length * 5 := by
  induction l with
  | nil => rfl
  | cons a r ih => simp only [flat, List.flatMap_cons, List.length_append, List.length_cons] at ih ⊢; rw [ih]; simp [Ev.cells]; omega
theorem flat_get (l : List Ev) (i f : Nat) (h : i < l.length) (hf : f < 5) : (flat l)[i * 5 + f]? = l[i].cells[f]? := by
  induction l generalizing i with
  | nil => simp at h
  | cons a r ih =>
    have e : flat (a :: r) = a.cells.toList ++ flat r := by simp [flat]
    rw [e]
    cases i with
    | zero =>
      rw [Nat.zero_mul, Nat.zero_add, List.getElem?_append_left (by simp [Ev.cells]; omega)]
      simp
    | succ i =>
      rw [List.getElem?_append_right (by simp [Ev.cells]; omega)]
      have := ih i (by simpa using h)
      rw [show (i + 1) * 5 + f - a.cells.toList.length = i * 5 + f by simp [Ev.cells]; omega, this]
      simp
/-- An event lies at o of the block g. -/
structure EvAt (w : World) (g o : Nat) (e : Ev) : Prop where
  k : w.cell? ⟨g, o, none⟩ = some (.int .i64 e.k)
  t : w.cell? ⟨g, o + 1, none⟩ = some (.int .i64 e.t)
  p : w.cell? ⟨g, o + 2, none⟩ = some (.int .i64 e.p)
  c : w.cell? ⟨g, o + 3, none⟩ = some (.int .i64 e.c)
  n : w.cell? ⟨g, o + 4, none⟩ = some (.int .i64 e.n)
theorem EvAt.keep {w w' : World} {g o : Nat} {e : Ev} (h : EvAt w g o e) (hk : w'.heap[g]? = w.heap[g]?) : EvAt w' g o e := by
  have hc : ∀ i, w'.cell? ⟨g, i, none⟩ = w.cell? ⟨g, i, none⟩ := fun i => World.cell?_of_block (a := ⟨g, i, none⟩) hk
  exact ⟨(hc _).trans h.k, (hc _).trans h.t, (hc _).trans h.p, (hc _).trans h.c, (hc _).trans h.n⟩
theorem EvAt.lt {w : World} {g o : Nat} {e : Ev} (h : EvAt w g o e) : g < w.heap.size := World.block_lt_of_cell? _ _ h.k
/-- v is a slice that reads as the events l. -/
def EvsIn (w : World) (v : Value) (l : List Ev) : Prop :=
  ∃ A c, v = .slice A l.length c ∧ l.length ≤ c ∧ (0 < l.length → ∃ g o, A = some ⟨g, o, none⟩ ∧ ∀ i (h : i < l.length), EvAt w g (o + i * 5) l[i])
theorem EvsIn.nil (w : World) : EvsIn w (.slice none 0 0) [] := ⟨none, 0, rfl, Nat.le_refl _, fun h => by simp at h⟩
theorem EvsIn.keep {w w' : World} {v : Value} {l : List Ev} (h : EvsIn w v l) (hk : ∀ g, g < w.heap.size → w'.heap[g]? = w.heap[g]?) : EvsIn w' v l := by
  obtain ⟨A, c, rfl, hl, hc⟩ := h
  refine ⟨A, c, rfl, hl, fun hp => ?_⟩
  obtain ⟨g, o, rfl, hcell⟩ := hc hp
  exact ⟨g, o, rfl, fun i hi => (hcell i hi).keep (hk g (hcell i hi).lt)⟩
theorem EvsIn.below {w w' : World} {v : Value} {l : List Ev} (h : EvsIn w v l) (hb : Below w.heap.size w w') : EvsIn w' v l := h.keep fun g hg => hb.block g hg
theorem EvsIn.drewN {w : World} {v : Value} {l : List Ev} (h : EvsIn w v l) (n : Nat) : EvsIn (w.drewN n) v l := h.keep fun _ _ => rfl
theorem EvsIn.form {w : World} {v : Value} {l : List Ev} (h : EvsIn w v l) : ∃ A c, v = .slice A l.length c := by
  obtain ⟨A, c, rfl, _⟩ := h
  exact ⟨A, c, rfl⟩
theorem EvsIn.of_own {w : World} {base n : Nat} {e : TypeId} {v : Value} {l : List Ev} (h : w.ownsRow base e 5 v n (flat l)) : EvsIn w v l := by
  have hn : n = l.length := by have := h.1; rw [flat_len] at this; omega
  subst hn
  rcases Nat.eq_zero_or_pos l.length with h0 | hp
  · rcases h.2 with ⟨rfl, _⟩ | ⟨g, cap, cur, rfl, _, _, hnc, _⟩
    · exact ⟨none, 0, by rw [h0], by omega, fun h => by omega⟩
    · exact ⟨_, _, rfl, hnc, fun h => by omega⟩
  · obtain ⟨g, cap, rfl, _, _, hnc, hc, _⟩ := own_pos h hp
    refine ⟨_, _, rfl, hnc, fun _ => ⟨g, 0, rfl, fun i hi => ?_⟩⟩
    have key : ∀ f, f < 5 → w.cell? ⟨g, i * 5 + f, none⟩ = l[i].cells[f]? := fun f hf => (hc _ (by omega)).trans (flat_get l i f hi hf)
    rw [Nat.zero_add]
    exact ⟨key 0 (by omega), key 1 (by omega), key 2 (by omega), key 3 (by omega), key 4 (by omega)⟩
theorem ev_ones (e : Ev) : ∀ c ∈ e.cells.toList, c.oneCell' = true := by
  intro c hc
  simp [Ev.cells] at hc
  rcases hc with rfl | rfl | rfl | rfl | rfl <;> rfl
/-! ### What a log has -/
def okK (k : Int) : Prop := 0 ≤ k ∧ k < 6
instance (k : Int) : Decidable (okK k) := inferInstanceAs (Decidable (0 ≤ k ∧ k < 6))
def goneOf (l : List Ev) : Nat := l.length - 64
def lastOf (l : List Ev) : List Ev := l.drop (goneOf l)
def inP (p : Int) (e : Ev) : Bool := decide (e.p = p)
def ofP (l : List Ev) (p : Int) : List Ev := (lastOf l).filter (inP p)
def isK (k : Int) (e : Ev) : Bool := decide (e.k = k)
def cntK (l : List Ev) (k : Int) : Nat := l.countP (isK k)
theorem lastOf_len (l : List Ev) : (lastOf l).length = l.length - goneOf l := by simp [lastOf]
theorem lastOf_len' (l : List Ev) : (lastOf l).length = min l.length 64 := by simp [lastOf, goneOf]; omega
theorem lastOf_get (l : List Ev) (i : Nat) (h : i < (lastOf l).length) : (lastOf l)[i] = l[goneOf l + i]'(by rw [lastOf_len] at h; omega) := by
  simp only [lastOf, List.getElem_drop]
theorem cntK_snoc (l : List Ev) (e : Ev) (k : Int) : cntK (l ++ [e]) k = cntK l k + if e.k = k then 1 else 0 := by
  unfold cntK
  rw [List.countP_append, List.countP_cons, List.countP_nil]
  simp [isK]
theorem cntK_le (l : List Ev) (k : Int) : cntK l k ≤ l.length := List.countP_le_length
theorem cntK_sum (l : List Ev) (h : ∀ e ∈ l, okK e.k) : cntK l 0 + cntK l 1 + cntK l 2 + cntK l 3 + cntK l 4 + cntK l 5 = l.length := by
  induction l with
  | nil => rfl
  | cons a r ih =>
    have h1 := ih fun e he => h e (List.mem_cons_of_mem _ he)
    have h2 := h a List.mem_cons_self
    have key : ∀ k, cntK (a :: r) k = cntK r k + if a.k = k then 1 else 0 := fun k => by unfold cntK; rw [List.countP_cons]; simp [isK]
    simp only [key, List.length_cons]
    unfold okK at h2
    rcases (show a.k = 0 ∨ a.k = 1 ∨ a.k = 2 ∨ a.k = 3 ∨ a.k = 4 ∨ a.k = 5 by omega) with q | q | q | q | q | q <;> simp only [q] <;> simp <;> omega
end Go.Proofs.YtbnaehfgpilicaaDoor
