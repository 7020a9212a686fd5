/- The reference's pool: New and own by the printed contracts, turned to lists of cells. -/
import Derived.Test.YtjmhdkcnllnekaaPoolPure
import Derived.Test.YtjmhdkcnllnekaaPPoolPlaysx1
import Derived.Test.YtjmhdkcnllnekaaPPoolPlaysx2
namespace Go.Proofs.Ytjmhdkcnllnekaa
open Go.RowKit

/-- v is a slice that reads as the cells xs (nil is the empty one). -/
def ListIn (w : World) (v : Value) (xs : List Value) : Prop :=
  ∃ A c, v = .slice A xs.length c ∧ xs.length ≤ c ∧ (0 < xs.length → ∃ g o, A = some ⟨g, o, none⟩ ∧ ∀ i (h : i < xs.length), w.cell? ⟨g, o + i, none⟩ = some xs[i])
theorem ListIn.below {w w' : World} {v : Value} {xs : List Value} (h : ListIn w v xs) (hb : Below w.heap.size w w') : ListIn w' v xs := by
  obtain ⟨A, c, rfl, hl, hc⟩ := h
  refine ⟨A, c, rfl, hl, fun hp => ?_⟩
  obtain ⟨g, o, rfl, hcell⟩ := hc hp
  exact ⟨g, o, rfl, fun i hi => (hb.cell (p := ⟨g, o + i, none⟩) (World.block_lt_of_cell? _ _ (hcell i hi))).trans (hcell i hi)⟩
theorem ListIn.of_own {w : World} {base n : Nat} {e : TypeId} {v : Value} {xs : List Value} (h : w.ownsRow base e 1 v n xs) : ListIn w v xs := by
  have hn : n = xs.length := by have := h.1; omega
  subst hn
  rcases Nat.eq_zero_or_pos xs.length with h0 | hp
  · rcases h.2 with ⟨rfl, _⟩ | ⟨g, cap, cur, rfl, _, _, hnc, _⟩
    · exact ⟨none, 0, by rw [h0], by omega, fun h => by omega⟩
    · exact ⟨_, _, rfl, hnc, fun h => by omega⟩
  · obtain ⟨g, cap, rfl, _, _, hnc, hc, _⟩ := own_pos h hp
    refine ⟨_, _, rfl, hnc, fun _ => ⟨g, 0, rfl, fun i hi => ?_⟩⟩
    rw [Nat.zero_add, hc i (by omega)]
    simp [hi]
def tks (p : PS) : List Bool := (List.range p.n).map p.tk
def ows (p : PS) : List Int := (List.range p.n).map p.ow
def tus (p : PS) : List Int := (List.range p.n).map p.tu
def RefAt (w : World) (v : Value) (p : PS) : Prop :=
  ∃ v0 v1 v2, v = .agg #[v0, v1, v2] ∧ ListIn w v0 ((tks p).map Value.bool) ∧ ListIn w v1 ((ows p).map (Value.int .i64)) ∧ ListIn w v2 ((tus p).map (Value.int .i64))
theorem RefAt.below {w w' : World} {v : Value} {p : PS} (h : RefAt w v p) (hb : Below w.heap.size w w') : RefAt w' v p := by
  obtain ⟨v0, v1, v2, rfl, h0, h1, h2⟩ := h
  exact ⟨v0, v1, v2, rfl, h0.below hb, h1.below hb, h2.below hb⟩
section
open PPoolPlays
open Go.Proofs.YtjmhdkcnllnekaaW.PrintWords
theorem c_bool {w : World} {v : Value} {l : List Bool} (h : ListIn w v (l.map Value.bool)) (hl : l.length ≤ 1000000) : ∃ A c, v = .slice A l.length c ∧ l.length ≤ c ∧ Kd.C Kd.bool w A l.length l := by
  obtain ⟨A, c, rfl, hlc, hc⟩ := h
  rw [List.length_map] at *
  refine ⟨A, c, rfl, hlc, rfl, by omega, fun hp => ?_⟩
  obtain ⟨g, o, rfl, hcell⟩ := hc (by simpa using hp)
  refine ⟨_, rfl, fun j p hj => ⟨[.bool p], rfl, rfl, fun i u hu => ?_⟩⟩
  have hjl : j < l.length := (List.getElem?_eq_some_iff.1 hj).1
  have e := (List.getElem?_eq_some_iff.1 hj).2
  have hi : i = 0 := by
    have := (List.getElem?_eq_some_iff.1 hu).1
    simp at this
    exact this
  subst hi
  have hu' : u = .bool p := by simpa using hu.symm
  have := hcell j (by simpa using hjl)
  have ha : (⟨g, o, none⟩ : Addr).add (j * 1 + 0) = ⟨g, o + j, none⟩ := by unfold Addr.add; split <;> simp_all
  refine (congrArg w.cell? ha).trans ?_
  rw [this, hu']
  simp [e]
theorem c_int {w : World} {v : Value} {l : List Int} (h : ListIn w v (l.map (Value.int .i64))) (hl : l.length ≤ 1000000) : ∃ A c, v = .slice A l.length c ∧ l.length ≤ c ∧ Kd.C (Kd.int .i64) w A l.length l := by
  obtain ⟨A, c, rfl, hlc, hc⟩ := h
  rw [List.length_map] at *
  refine ⟨A, c, rfl, hlc, rfl, by omega, fun hp => ?_⟩
  obtain ⟨g, o, rfl, hcell⟩ := hc (by simpa using hp)
  refine ⟨_, rfl, fun j p hj => ⟨[.int .i64 p], rfl, rfl, fun i u hu => ?_⟩⟩
  have hjl : j < l.length := (List.getElem?_eq_some_iff.1 hj).1
  have e := (List.getElem?_eq_some_iff.1 hj).2
  have hi : i = 0 := by
    have := (List.getElem?_eq_some_iff.1 hu).1
    simp at this
    exact this
  subst hi
  have hu' : u = .int .i64 p := by simpa using hu.symm
  have := hcell j (by simpa using hjl)
  have ha : (⟨g, o, none⟩ : Addr).add (j * 1 + 0) = ⟨g, o + j, none⟩ := by unfold Addr.add; split <;> simp_all
  refine (congrArg w.cell? ha).trans ?_
  rw [this, hu']
  simp [e]
theorem reps_map {α : Type} (enc : α → Value) {l : List α} {cs : List Value} (h : Reps (fun x c => c = [enc x]) 1 l cs) : cs = l.map enc := by
  apply List.ext_getElem?
  intro j
  rw [List.getElem?_map]
  cases hj : l[j]? with
  | none =>
    have : l.length ≤ j := by simpa using hj
    rw [List.getElem?_eq_none (by have := h.1; omega)]
    rfl
  | some x =>
    have h2 := h.2 j x hj
    have : (cs.drop (j * 1)).take 1 = [enc x] := h2
    rw [Nat.mul_one] at this
    have h3 := congrArg (fun l => l[0]?) this
    simpa [List.getElem?_take, List.getElem?_drop] using h3
theorem r_bool {w : World} {base : Nat} {ok : Nat → Prop} {v : Value} {l : List Bool} (h : Kd.R Kd.bool 4 w base ok v l) : w.ownsRow base 4 1 v l.length (l.map Value.bool) ∧ ∀ k, v.ownBlock = some k → ok k := by
  obtain ⟨h0, inner, ho, hr⟩ := h
  have := reps_map Value.bool hr
  subst this
  exact ⟨ho, h0⟩
theorem r_int {w : World} {base : Nat} {ok : Nat → Prop} {v : Value} {l : List Int} (h : Kd.R (Kd.int .i64) 3 w base ok v l) : w.ownsRow base 3 1 v l.length (l.map (Value.int .i64)) ∧ ∀ k, v.ownBlock = some k → ok k := by
  obtain ⟨h0, inner, ho, hr⟩ := h
  have := reps_map (Value.int .i64) hr
  subst this
  exact ⟨ho, h0⟩
/-- A pool of the reference's whose three lists are the call's own. -/
structure RefOwn (w : World) (base : Nat) (v0 v1 v2 : Value) (p : PS) : Prop where
  r0 : w.ownsRow base 4 1 v0 p.n ((tks p).map Value.bool)
  r1 : w.ownsRow base 3 1 v1 p.n ((ows p).map (Value.int .i64))
  r2 : w.ownsRow base 3 1 v2 p.n ((tus p).map (Value.int .i64))
  ne : ∀ k, v1.ownBlock = some k → some k ≠ v2.ownBlock
theorem own_any {w : World} {v : Value} {p : PS} (h : RefAt w v p) (hp : p.n ≤ 64) :
    Calls Try.prog 30 #[v] w fun e w' => ∃ v0 v1 v2, e = .returned (.agg #[v0, v1, v2]) ∧ RefOwn w' w.heap.size v0 v1 v2 p ∧ Below w.heap.size w w' := by
  obtain ⟨v0, v1, v2, rfl, h0, h1, h2⟩ := h
  have l0 : (tks p).length = p.n := by simp [tks]
  have l1 : (ows p).length = p.n := by simp [ows]
  have l2 : (tus p).length = p.n := by simp [tus]
  obtain ⟨A0, c0, rfl, k0, C0⟩ := c_bool h0 (by omega)
  obtain ⟨A1, c1, rfl, k1, C1⟩ := c_int h1 (by omega)
  obtain ⟨A2, c2, rfl, k2, C2⟩ := c_int h2 (by omega)
  refine (empennageref09_own.calls A0 c0 (tks p) A1 c1 (ows p) A2 c2 (tus p) (tks p) (ows p) (tus p) w C0 k0 C1 k1 C2 k2 ?_).mono ?_
  · unfold empennageref09_own.f
    simp only [List.length_nil, Nat.zero_add, List.nil_append]
    rw [if_pos (by omega), if_pos (by omega), if_pos (by omega)]
  · rintro e w' ⟨u0, u1, u2, rfl, R0, R1, R2, hB⟩
    have a0 := (r_bool R0).1
    have a1 := r_int R1
    have a2 := (r_int R2).1
    rw [l0] at a0
    rw [l1] at a1
    rw [l2] at a2
    exact ⟨u0, u1, u2, rfl, ⟨a0, a1.1, a2, a1.2⟩, hB⟩
theorem refnew_any (n : Int) (w : World) :
    Calls Try.prog 22 #[.int .i64 n] w fun e w' => ∃ v, e = .returned v ∧ RefAt w' v (PS.new (slotsOf n)) ∧ Below w.heap.size w w' := by
  have e : mn (mx n 0) 64 = (slotsOf n : Int) := by unfold mn mx slotsOf; split <;> split <;> omega
  have hs := slotsOf_le n
  refine (empennageref09_New.calls n (List.replicate (slotsOf n) false) (List.replicate (slotsOf n) 0) (List.replicate (slotsOf n) 0) w ?_).mono ?_
  · unfold empennageref09_New.f
    rw [e]
    simp only [Int.toNat_natCast]
    rw [if_pos (by omega), if_pos (by omega), if_pos (by omega)]
  · rintro e w' ⟨u0, u1, u2, rfl, R0, R1, R2, hB⟩
    have q0 : tks (PS.new (slotsOf n)) = List.replicate (slotsOf n) false := by unfold tks; rw [List.eq_replicate_iff]; simp [PS.new]
    have q1 : ows (PS.new (slotsOf n)) = List.replicate (slotsOf n) 0 := by unfold ows; rw [List.eq_replicate_iff]; simp [PS.new]
    have q2 : tus (PS.new (slotsOf n)) = List.replicate (slotsOf n) 0 := by unfold tus; rw [List.eq_replicate_iff]; simp [PS.new]
    refine ⟨_, rfl, ⟨u0, u1, u2, rfl, ?_, ?_, ?_⟩, hB⟩
    · rw [q0]; exact ListIn.of_own (r_bool R0).1
    · rw [q1]; exact ListIn.of_own (r_int R1).1
    · rw [q2]; exact ListIn.of_own (r_int R2).1
end
end Go.Proofs.Ytjmhdkcnllnekaa
