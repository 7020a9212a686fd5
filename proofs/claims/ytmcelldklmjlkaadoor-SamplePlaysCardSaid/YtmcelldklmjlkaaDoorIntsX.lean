/- Slices of ints that lie in blocks of the law's own (X), and new ones; append onto nil. -/
import Derived.Test.YtmcelldklmjlkaaDoorCell
namespace Go.Proofs.YtmcelldklmjlkaaDoor
open Go.RowKit

def IntsX (w : World) (X : Nat → Prop) (v : Value) (l : List Int) : Prop :=
  ∃ A c, v = .slice A l.length c ∧ l.length ≤ c ∧ (0 < l.length → ∃ g o, A = some ⟨g, o, none⟩ ∧ X g ∧ ∀ i (h : i < l.length), w.cell? ⟨g, o + i, none⟩ = some (.int .i64 l[i]))
/-- X, and the blocks that are new in w'. -/
def newX (X : Nat → Prop) (w w' : World) : Nat → Prop := fun k => X k ∨ (w.heap.size ≤ k ∧ k < w'.heap.size)
section
variable {w w' : World} {X Y : Nat → Prop} {v : Value} {l : List Int}
theorem IntsX.ints (h : IntsX w X v l) : IntsIn w v l := by
  obtain ⟨A, c, rfl, hl, hc⟩ := h
  exact ⟨A, c, rfl, hl, fun hp => by obtain ⟨g, o, rfl, _, hcell⟩ := hc hp; exact ⟨g, o, rfl, hcell⟩⟩
theorem IntsX.nil (w : World) (X : Nat → Prop) : IntsX w X (.slice none 0 0) [] := ⟨none, 0, rfl, Nat.le_refl _, fun h => by simp at h⟩
theorem IntsX.mono (h : IntsX w X v l) (hY : ∀ k, X k → Y k) : IntsX w Y v l := by
  obtain ⟨A, c, rfl, hl, hc⟩ := h
  exact ⟨A, c, rfl, hl, fun hp => by obtain ⟨g, o, rfl, hx, hcell⟩ := hc hp; exact ⟨g, o, rfl, hY g hx, hcell⟩⟩
theorem IntsX.keep (h : IntsX w X v l) (hk : ∀ g, X g → w'.heap[g]? = w.heap[g]?) : IntsX w' X v l := by
  obtain ⟨A, c, rfl, hl, hc⟩ := h
  refine ⟨A, c, rfl, hl, fun hp => ?_⟩
  obtain ⟨g, o, rfl, hx, hcell⟩ := hc hp
  exact ⟨g, o, rfl, hx, fun i hi => (World.cell?_of_block (a := ⟨g, o + i, none⟩) (hk g hx)).trans (hcell i hi)⟩
theorem IntsX.below (h : IntsX w X v l) (hb : Below w.heap.size w w') : IntsX w' X v l := by
  obtain ⟨A, c, rfl, hl, hc⟩ := h
  refine ⟨A, c, rfl, hl, fun hp => ?_⟩
  obtain ⟨g, o, rfl, hx, hcell⟩ := hc hp
  exact ⟨g, o, rfl, hx, fun i hi => (hb.cell (p := ⟨g, o + i, none⟩) (World.block_lt_of_cell? _ _ (hcell i hi))).trans (hcell i hi)⟩
theorem IntsX.go (h : IntsX w X v l) (hb : Below w.heap.size w w') : IntsX w' (newX X w w') v l := (h.below hb).mono fun _ e => .inl e
theorem IntsX.form (h : IntsX w X v l) : ∃ A c, v = .slice A l.length c ∧ l.length ≤ c := by
  obtain ⟨A, c, rfl, hl, _⟩ := h
  exact ⟨A, c, rfl, hl⟩
/-- A row of the call's own is new. -/
theorem IntsX.own {base n : Nat} {e : TypeId} {xs : List Value} (h : w'.ownsRow base e 1 v n xs) (hx : xs = l.map (Value.int .i64)) (hb : w.heap.size ≤ base) : IntsX w' (newX X w w') v l := by
  have hn : n = l.length := by have := h.1; rw [hx] at this; simpa using this.symm
  subst hn
  have hlt := h.lt
  rcases Nat.eq_zero_or_pos l.length with h0 | hp
  · rcases h.2 with ⟨rfl, _⟩ | ⟨g, cap, cur, rfl, _, _, hnc, _⟩
    · exact ⟨none, 0, by rw [h0], by omega, fun h => by omega⟩
    · exact ⟨_, _, rfl, hnc, fun h => by omega⟩
  · obtain ⟨g, cap, rfl, _, _, hnc, hc, _⟩ := own_pos h hp
    refine ⟨_, _, rfl, hnc, fun _ => ⟨g, 0, rfl, .inr ?_, fun i hi => ?_⟩⟩
    · have := hlt g (by simp [Value.ownBlock])
      omega
    · rw [Nat.zero_add, hc i (by omega), hx]
      simp [hi]
end
/-- append(nil, s..). -/
theorem app_copy {W : World} {ops : Array Oper} {rest : List Oper} {o : Oper} {a : Act} {Q : Exit → Act → World → Prop} (hgd : o.guard = none) (s x : Operand)
    (ho : o.op = .call { callee := .builtin .append, args := #[s, x], argTypes := #[29, 29] }) (l : List Int) (hs : a.eval s = .slice none 0 0) (u : Value) (hx : a.eval x = u) (hu : IntsIn W u l) (h0 : 0 < l.length) (hl : l.length ≤ 65536)
    (h : ∀ v' w', w'.ownsRow W.heap.size 3 1 v' l.length (nums l) → Below W.heap.size W w' → wpList Tryd.prog ops Q rest (a.put o.dst v') w') : wpList Tryd.prog ops Q (o :: rest) a W := by
  obtain ⟨i0, hi, hz0, hz1, hz2⟩ := info_parts infoInt
  obtain ⟨A, c, rfl, hlc, k⟩ := hu
  obtain ⟨g, of, rfl, hcell⟩ := k h0
  refine wpList_append_own W hgd s x 29 ho W.heap.size 3 i0 (.int .i64 0) 1 8 Tryd.underlying29 hi hz0 hz1 hz2 rfl (by decide) (.slice none 0 0) 0 [] hs (World.ownsRow_nil _ _ _ _) ⟨g, of, none⟩ l.length c (nums l) hx (by simp [nums]) ?_ (ints_oneCell _ _) ?_ ?_ (by simp) ?_
  · intro j u hj
    have hjl : j < l.length := by have := (List.getElem?_eq_some_iff.1 hj).1; rwa [nums_len] at this
    rw [nums_get l j hjl] at hj
    have ha : (⟨g, of, none⟩ : Addr).add (j * 1) = ⟨g, of + j, none⟩ := by unfold Addr.add; split <;> simp_all
    first
      | (rw [ha, hcell j hjl, hj])
      | (have ha : (⟨g, of, none⟩ : Addr).add j = ⟨g, of + j, none⟩ := by unfold Addr.add; split <;> simp_all
         rw [ha, hcell j hjl, hj])
  · simp [maxLen]; omega
  · omega
  intro v' w' hown hg _
  refine h v' w' (by simpa using hown) ((Below.refl _ W).grown hg (Nat.le_refl _) (fun k hk => by simp [Value.ownBlock] at hk))
end Go.Proofs.YtmcelldklmjlkaaDoor
