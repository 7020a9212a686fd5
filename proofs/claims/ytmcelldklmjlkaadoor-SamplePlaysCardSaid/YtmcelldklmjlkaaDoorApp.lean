/- append: nothing onto nil; a row onto a row of the call's own; a row with one word set; a box that lies low. (The ring seat holds them in RefH, RefI, RefM.) -/
import Derived.Test.YtmcelldklmjlkaaDoorIntsX
import Derived.Test.YtmcelldklmjlkaaDoorWide
namespace Go.Proofs.YtmcelldklmjlkaaDoor
open Go.RowKit

theorem Boxed.low {T : TypeId} {w wx w' : World} {x y B : Nat} {cs : Array Value} (h : Boxed T w wx x y cs) (hb : Below B wx w') (hx : x < B) (hy : y < B) (hw : w.heap.size ≤ B) : Boxed T w w' x y cs := by
  obtain ⟨zs, hz, hyb⟩ := h.hy
  exact ⟨h.hx.of (hb.block x hx), ⟨zs, hz, hyb.of (hb.block y hy)⟩, h.bel.trans (hb.mono hw), h.gx, h.gy, h.ne⟩
/-- append(nil, nil..). -/
theorem app_none {W : World} {ops : Array Oper} {rest : List Oper} {o : Oper} {a : Act} {Q : Exit → Act → World → Prop} (hgd : o.guard = none) (s x : Operand)
    (ho : o.op = .call { callee := .builtin .append, args := #[s, x], argTypes := #[29, 29] }) (hs : a.eval s = .slice none 0 0) (hx : a.eval x = .slice none 0 0)
    (h : wpList Tryd.prog ops Q rest (a.put o.dst (.slice none 0 0)) W) : wpList Tryd.prog ops Q (o :: rest) a W := by
  refine wpList_plain hgd fun K hK => ?_
  have hrun : ∀ ty, (Builtin.append_ #[29, 29] ty #[.slice none 0 0, .slice none 0 0]).run Tryd.prog W = .ok (.slice none 0 0) W := fun ty => by kernel_rfl
  unfold Oper.wp
  simp [execOp, ho, resolve, invoke, builtin, hs, hx, hrun, Result.andThen]
  exact hK _ _ h
theorem row_new {w2 w' : World} {X : Nat → Prop} {g cap n k : Nat} {l : List Int} {val : Int} (hn : l.length = n) (hc : ∀ j, j < n → w2.cell? ⟨g, j, none⟩ = (nums l)[j]?) (hk : k < n) (hcap : n ≤ cap) (hX : X g)
    (hw : ∀ j, w'.cell? ⟨g, j, none⟩ = (w2.setCell ⟨g, k, none⟩ (.int .i64 val)).cell? ⟨g, j, none⟩) : IntsX w' X (.slice (some ⟨g, 0, none⟩) n cap) (l.set k val) := by
  subst hn
  refine ⟨_, cap, by rw [List.length_set], by rw [List.length_set]; exact hcap, fun _ => ⟨g, 0, rfl, hX, fun j hj => ?_⟩⟩
  rw [List.length_set] at hj
  rw [Nat.zero_add, hw j]
  by_cases e : k = j
  · subst e
    rw [World.cell?_setCell_same _ _ _ (by rw [hc k hj, nums_get l k hj])]
    simp
  · rw [cell_off e, hc j hj, nums_get l j hj]
    simp [e]
/-- append(row of the call's own, s..). -/
theorem app_more {W : World} {ops : Array Oper} {rest : List Oper} {o : Oper} {a : Act} {Q : Exit → Act → World → Prop} (hgd : o.guard = none) (s x : Operand)
    (ho : o.op = .call { callee := .builtin .append, args := #[s, x], argTypes := #[29, 29] }) (base : Nat) (v : Value) (n : Nat) (l0 l : List Int) (hs : a.eval s = v) (hown : W.ownsRow base 3 1 v n (nums l0)) (u : Value) (hx : a.eval x = u) (hu : IntsIn W u l) (h0 : 0 < l.length) (hl : n + l.length ≤ 65536) (hb : base ≤ W.heap.size)
    (h : ∀ v' w', w'.ownsRow base 3 1 v' (n + l.length) (nums (l0 ++ l)) → Below base W w' → wpList Tryd.prog ops Q rest (a.put o.dst v') w') : wpList Tryd.prog ops Q (o :: rest) a W := by
  obtain ⟨i0, hi, hz0, hz1, hz2⟩ := info_parts infoInt
  obtain ⟨A, c, rfl, hlc, k⟩ := hu
  obtain ⟨g, of, rfl, hcell⟩ := k h0
  refine wpList_append_own W hgd s x 29 ho base 3 i0 (.int .i64 0) 1 8 Tryd.underlying29 hi hz0 hz1 hz2 rfl (by decide) v n (nums l0) hs hown ⟨g, of, none⟩ l.length c (nums l) hx (by simp [nums]) ?_ (ints_oneCell _ _) ?_ ?_ hb ?_
  · intro j u hj
    have hjl : j < l.length := by have := (List.getElem?_eq_some_iff.1 hj).1; rwa [nums_len] at this
    rw [nums_get l j hjl] at hj
    have ha : (⟨g, of, none⟩ : Addr).add j = ⟨g, of + j, none⟩ := by unfold Addr.add; split <;> simp_all
    rw [ha, hcell j hjl, hj]
  · simp [maxLen]; omega
  · omega
  intro v' w' hown' hg _
  refine h v' w' (by simpa [nums] using hown') ((Below.refl _ W).grown hg hb (fun k hk => (hown.lt k hk).1))
/-- append(row, x), as one step of a region that draws. -/
theorem wp_app_one {P : Program} {W : World} {o : Oper} {a : Act} {K : Act → World → Prop} {Q : Exit → Act → World → Prop} (s x : Operand) (t : TypeId)
    (ho : o.op = .call { callee := .builtin .append, args := #[s, x], argTypes := #[t, t] })
    (base : Nat) (e : TypeId) (z : Value) (size bytes : Nat) (ht : P.underlying t = some (.slice e)) (hI : (P.info? e).map (fun i => (i.zero, i.size, i.bytes)) = some (some z, size, bytes))
    (hzs : z.cells.size = size) (hsz : 0 < size) (v : Value) (n : Nat) (xs : List Value) (hs : a.eval s = v) (hown : W.ownsRow base e size v n xs) (u : Array Value) (hu : u.size = size)
    (hx : a.eval x = .slice (some ⟨W.heap.size, 0, none⟩) 1 1) (h1 : ∀ c ∈ u.toList, c.oneCell' = true) (hn : n ≤ 1048576) (hby : bytes ≤ 1048576) (hbase : base ≤ W.heap.size)
    (h : ∀ v' w', w'.ownsRow base e size v' (n + 1) (xs ++ u.toList) → Below base (W.alloc (.cells u e)) w' → K (a.put o.dst v') w') : o.wp P a (W.alloc (.cells u e)) K Q := by
  obtain ⟨i, hi, hz, hz1, hz2⟩ := info_parts hI
  refine wp_append_own _ s x t ho base e i z size bytes ht hi hz hz1 hz2 hzs hsz v n xs hs (hown.alloc _) ⟨W.heap.size, 0, none⟩ 1 1 u.toList hx (by simp [hu]) ?_ h1 (by unfold maxLen; omega) ?_ (by simp; omega) ?_
  · intro j c hc
    have hj : (⟨W.heap.size, 0, none⟩ : Addr).add j = ⟨W.heap.size, j, none⟩ := by unfold Addr.add; split <;> simp_all
    rw [hj, World.cell?_alloc_at _ _ _ _ rfl]
    simpa using hc
  · calc (n + 1) * bytes ≤ 1048577 * 1048576 := Nat.mul_le_mul (by omega) hby
      _ ≤ _ := by decide
  · intro v' w' ho' hg hiff
    exact h v' w' ho' ((Below.refl base _).grown hg (by simp; omega) fun k hk => (hown.lt k hk).1)
end Go.Proofs.YtmcelldklmjlkaaDoor
