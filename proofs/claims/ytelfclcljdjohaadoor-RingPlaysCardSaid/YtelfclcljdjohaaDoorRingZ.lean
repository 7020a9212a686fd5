/- Messages through a ring: any push, pop and step; two rings beside each other. -/
import Derived.Test.YtelfclcljdjohaaDoorRingY
namespace Go.Proofs.YtelfclcljdjohaaDoor
open Go.RowKit

instance (v : Int) : Decidable (okWord v) := by unfold okWord; exact inferInstance
def RS.pushR (s : RS) (l : List Int) : RS × Int := if l.length = s.W ∧ ∀ x ∈ l, okWord x then (if s.ia = 0 then (s.pushed l, 0) else (s, 1)) else (s, 3)
def RS.popR (s : RS) : RS × Int := if s.oa = 0 then (s.popped, 0) else (s, 1)
def RS.step (s : RS) (x : Bool) : RS × List Int × Bool × Int := if x then (s.stepW.1, [], s.stepW.2.1, s.stepW.2.2) else s.stepR
section
variable {W w : World} {b mb lb : Nat} {X : Nat → Prop} {s : RS}
theorem ctx_pushR (h : Ctx W w b mb lb X s) {v : Value} {l : List Int} (hv : IntsIn w v l) (hl : l.length ≤ 65536) :
    Calls Tryd.prog 17 #[.pointer (some ⟨b, 0, none⟩), v] w fun e w' => e = .returned (.int .i64 (s.pushR l).2) ∧ Ctx W w' b mb lb X (s.pushR l).1 ∧ Kept X w w' := by
  unfold RS.pushR
  split
  · rename_i hg
    split
    · rename_i hia
      exact ctx_push h hia hv hg.1 hg.2
    · rename_i hia
      obtain ⟨vi, vo, c, hT⟩ := h.at_
      exact (push_busy hT h.ok hia hv hg.1 hg.2).mono fun _ _ ⟨he, hw⟩ => ⟨he, hw ▸ h, hw ▸ fun _ _ => rfl⟩
  · rename_i hg
    obtain ⟨vi, vo, c, hT⟩ := h.at_
    exact (push_bad hT h.ok hv hl hg).mono fun _ _ ⟨he, hw⟩ => ⟨he, hw ▸ h, hw ▸ fun _ _ => rfl⟩
theorem ctx_popR (h : Ctx W w b mb lb X s) :
    Calls Tryd.prog 20 #[.pointer (some ⟨b, 0, none⟩)] w fun e w' => e = .returned (.int .i64 s.popR.2) ∧ Ctx W w' b mb lb X s.popR.1 ∧ Kept X w w' := by
  unfold RS.popR
  split
  · rename_i hoa
    exact ctx_pop h hoa
  · rename_i hoa
    obtain ⟨vi, vo, c, hT⟩ := h.at_
    exact (pop_busy hT hoa).mono fun _ _ ⟨he, hw⟩ => ⟨he, hw ▸ h, hw ▸ fun _ _ => rfl⟩
theorem ctx_step (h : Ctx W w b mb lb X s) (x : Bool) :
    Calls Tryd.prog 18 #[.pointer (some ⟨b, 0, none⟩), .bool x] w fun e w' => ∃ A c, e = .returned (.tuple #[.slice A (s.step x).2.1.length c, .bool (s.step x).2.2.1, .int .i64 (s.step x).2.2.2]) ∧ Ctx W w' b mb lb X (s.step x).1 ∧ Kept X w w' ∧ IntsIn w' (.slice A (s.step x).2.1.length c) (s.step x).2.1 ∧ ∀ g, (Value.slice A (s.step x).2.1.length c).ownBlock = some g → w.heap.size ≤ g := by
  cases x
  · exact (ctx_stepR h).mono fun e w' ⟨v, he, hc, hi, hf⟩ => by
      obtain ⟨A, c, rfl⟩ := hi.form
      exact ⟨A, c, he, hc.1, hc.2, hi, hf⟩
  · exact (ctx_stepW h).mono fun e w' ⟨he, hc, hk⟩ => ⟨none, 0, he, hc, hk, IntsIn.nil _, fun g hg => by simp [Value.ownBlock] at hg⟩
theorem own_kept {w w' : World} {base : Nat} {e : TypeId} {size n : Nat} {v : Value} {xs : List Value} (h : w.ownsRow base e size v n xs) (k : ∀ g, v.ownBlock = some g → w'.heap[g]? = w.heap[g]?) : w'.ownsRow base e size v n xs := by
  obtain ⟨h1, h2⟩ := h
  refine ⟨h1, ?_⟩
  rcases h2 with h2 | ⟨g, cap, cur, hv, hg, hh, r⟩
  · exact Or.inl h2
  · exact Or.inr ⟨g, cap, cur, hv, hg, (k g (by rw [hv]; rfl)).trans hh, r⟩
end
def blks (b mb lb : Nat) (vi vo : Value) : Nat → Prop := fun k => regS b mb lb k ∨ vi.ownBlock = some k ∨ vo.ownBlock = some k
def nob : Nat → Prop := fun _ => False
/-- Two rings, beside each other; Y1 and Y2 are blocks of the law's own. -/
structure Two (W w : World) (b1 m1 l1 : Nat) (s1 : RS) (Y1 : Nat → Prop) (b2 m2 l2 : Nat) (s2 : RS) (Y2 : Nat → Prop) : Prop where
  ex : ∃ vi1 vo1 c1 vi2 vo2 c2, RAt w W.heap.size b1 m1 l1 (fun k => blks b2 m2 l2 vi2 vo2 k ∨ Y1 k) s1 vi1 vo1 c1 ∧ RAt w W.heap.size b2 m2 l2 (fun k => blks b1 m1 l1 vi1 vo1 k ∨ Y2 k) s2 vi2 vo2 c2 ∧ (∀ k, blks b2 m2 l2 vi2 vo2 k ∨ Y1 k → ¬ regS b1 m1 l1 k) ∧ ∀ k, blks b1 m1 l1 vi1 vo1 k ∨ Y2 k → ¬ regS b2 m2 l2 k
  ok1 : s1.ok
  ok2 : s2.ok
  bel : Below W.heap.size W w
  g1 : ∀ k, regS b1 m1 l1 k → W.heap.size ≤ k
  g2 : ∀ k, regS b2 m2 l2 k → W.heap.size ≤ k
section
variable {W w w' : World} {b1 m1 l1 b2 m2 l2 : Nat} {s1 s2 : RS} {Y1 Y2 : Nat → Prop}
theorem Two.swap (h : Two W w b1 m1 l1 s1 Y1 b2 m2 l2 s2 Y2) : Two W w b2 m2 l2 s2 Y2 b1 m1 l1 s1 Y1 := by
  obtain ⟨vi1, vo1, c1, vi2, vo2, c2, h1, h2, x1, x2⟩ := h.ex
  exact ⟨⟨vi2, vo2, c2, vi1, vo1, c1, h2, h1, x2, x1⟩, h.ok2, h.ok1, h.bel, h.g2, h.g1⟩
theorem Two.below (h : Two W w b1 m1 l1 s1 Y1 b2 m2 l2 s2 Y2) (hb : Below w.heap.size w w') : Two W w' b1 m1 l1 s1 Y1 b2 m2 l2 s2 Y2 := by
  obtain ⟨vi1, vo1, c1, vi2, vo2, c2, h1, h2, x1, x2⟩ := h.ex
  exact ⟨⟨vi1, vo1, c1, vi2, vo2, c2, h1.below hb, h2.below hb, x1, x2⟩, h.ok1, h.ok2, h.bel.trans (hb.mono h.bel.size), h.g1, h.g2⟩
theorem Two.drew (h : Two W w b1 m1 l1 s1 Y1 b2 m2 l2 s2 Y2) : Two W w.drew b1 m1 l1 s1 Y1 b2 m2 l2 s2 Y2 := h.below (Below.refl _ w).drew
theorem RAt.less {B b mb lb : Nat} {X Y : Nat → Prop} {s : RS} {vi vo : Value} {c : Int} (h : RAt w B b mb lb X s vi vo c) (hY : ∀ k, Y k → X k) : RAt w B b mb lb Y s vi vo c :=
  ⟨h.r, h.m, h.il, h.ol, h.si, h.so, fun g e k => h.xi g e (hY g k), fun g e k => h.xo g e (hY g k), fun k e => h.lx k (hY k e)⟩
/-- What the law has no more is forgotten. -/
theorem Two.less (h : Two W w b1 m1 l1 s1 Y1 b2 m2 l2 s2 Y2) : Two W w b1 m1 l1 s1 nob b2 m2 l2 s2 nob := by
  obtain ⟨vi1, vo1, c1, vi2, vo2, c2, h1, h2, x1, x2⟩ := h.ex
  have hn : ∀ {P Q : Prop}, P ∨ nob 0 → P ∨ Q := fun e => .inl (e.resolve_right id)
  exact ⟨⟨vi1, vo1, c1, vi2, vo2, c2, h1.less fun k e => hn e, h2.less fun k e => hn e, fun k e => x1 k (hn e), fun k e => x2 k (hn e)⟩, h.ok1, h.ok2, h.bel, h.g1, h.g2⟩
/-- What one ring does leaves the other as it is, and what it tells (Z, new blocks) may be the law's own beside the other one. -/
theorem Two.one (h : Two W w b1 m1 l1 s1 Y1 b2 m2 l2 s2 nob) : ∃ X, Ctx W w b1 m1 l1 X s1 ∧ (∀ k, Y1 k → X k) ∧ ∀ w' s1', Ctx W w' b1 m1 l1 X s1' → Kept X w w' → ∀ Z : Nat → Prop, (∀ k, Z k → w.heap.size ≤ k ∧ k < w'.heap.size) → Two W w' b1 m1 l1 s1' Y1 b2 m2 l2 s2 Z := by
  obtain ⟨vi1, vo1, c1, vi2, vo2, c2, h1, h2, x1, x2⟩ := h.ex
  refine ⟨fun k => blks b2 m2 l2 vi2 vo2 k ∨ Y1 k, ⟨⟨vi1, vo1, c1, h1⟩, h.ok1, h.bel, h.g1 _ (.inl rfl), h.g1 _ (.inr (.inl rfl)), h.g1 _ (.inr (.inr rfl)), x1⟩, fun k e => .inr e, fun w' s1' hC hK Z hZ => ?_⟩
  obtain ⟨vi1', vo1', c1', h1'⟩ := hC.at_
  have kr : ∀ k, regS b2 m2 l2 k → w'.heap[k]? = w.heap[k]? := fun k e => hK k (.inl (.inl e))
  have hm2 : MemAt w' m2 l2 s2.mem c2 := ⟨h2.m.m.of (kr _ (.inr (.inl rfl))), h2.m.d.of (kr _ (.inr (.inr rfl))), h2.m.le⟩
  have hx : ∀ g, blks b2 m2 l2 vi2 vo2 g → ¬ blks b1 m1 l1 vi1' vo1' g := fun g hg e => by
    rcases e with e | e | e
    · exact hC.xr g (.inl hg) e
    · exact h1'.xi g e (.inl hg)
    · exact h1'.xo g e (.inl hg)
  have hlt : ∀ g, blks b2 m2 l2 vi2 vo2 g → g < w.heap.size := fun g e => by
    rcases e with (e | e | e) | e | e
    · subst e; exact h2.r.lt
    · subst e; exact h2.m.m.lt
    · subst e; exact h2.m.d.lt
    · exact (h2.il.lt g e).2
    · exact (h2.ol.lt g e).2
  have hzx : ∀ g, blks b2 m2 l2 vi2 vo2 g → ¬ (blks b1 m1 l1 vi1' vo1' g ∨ Z g) := fun g hg e => e.elim (hx g hg) (fun e => by have := (hZ g e).1; have := hlt g hg; omega)
  refine ⟨⟨vi1', vo1', c1', vi2, vo2, c2, h1', ⟨h2.r.of (kr _ (.inl rfl)), hm2, own_kept h2.il (fun g e => hK g (.inl (.inr (.inl e)))), own_kept h2.ol (fun g e => hK g (.inl (.inr (.inr e)))), h2.si, h2.so, fun g e => hzx g (.inr (.inl e)), fun g e => hzx g (.inr (.inr e)), fun k e => ?_⟩, hC.xr, fun k e e' => hzx k (.inl e') e⟩, hC.ok, h.ok2, hC.bel, h.g1, h.g2⟩
  rcases e with ((e | e | e) | e | e) | e
  · subst e; exact h1'.r.lt
  · subst e; exact h1'.m.m.lt
  · subst e; exact h1'.m.d.lt
  · exact (h1'.il.lt k e).2
  · exact (h1'.ol.lt k e).2
  · exact (hZ k e).2
theorem two_new (n m : Int) (h : Ctx W w b1 m1 l1 (fun _ => False) s1) :
    Calls Tryd.prog 10 #[.int .i64 n, .int .i64 m] w fun e w' => ∃ b2 m2 l2, e = .returned (.pointer (some ⟨b2, 0, none⟩)) ∧ Two W w' b1 m1 l1 s1 nob b2 m2 l2 (RS.new (placesOf n) (wordsOf m)) nob :=
  (rnew_any n m W.heap.size w h.bel.size).mono fun _ _ ⟨b, mb, lb, he, g1, g2, g3, c, hT, hB⟩ => by
    obtain ⟨vi, vo, c1, h1⟩ := h.at_
    have h1' := h1.below hB
    have hb1 := h1.r.lt
    have hm1 := h1.m.m.lt
    have hl1 := h1.m.d.lt
    have hb2 := hT.r.lt
    have hm2 := hT.m.m.lt
    have hl2 := hT.m.d.lt
    have hs := h.bel.size
    have hx1 : ∀ k, blks b1 m1 l1 vi vo k ∨ nob k → k < w.heap.size := fun k e => by
      rcases e with ((e | e | e) | e | e) | e
      · omega
      · omega
      · omega
      · exact (h1.il.lt k e).2
      · exact (h1.ol.lt k e).2
      · exact e.elim
    have hx2 : ∀ k, blks b mb lb (.slice none 0 0) (.slice none 0 0) k ∨ nob k → w.heap.size ≤ k ∧ k = k := fun k e => by
      rcases e with ((e | e | e) | e | e) | e
      · omega
      · omega
      · omega
      · simp [Value.ownBlock] at e
      · simp [Value.ownBlock] at e
      · exact e.elim
    refine ⟨b, mb, lb, he, ⟨⟨vi, vo, c1, .slice none 0 0, .slice none 0 0, _, ⟨h1'.r, h1'.m, h1'.il, h1'.ol, h1'.si, h1'.so, fun g e e' => ?_, fun g e e' => ?_, fun k e => ?_⟩, ⟨hT.r, hT.m, hT.il, hT.ol, hT.si, hT.so, fun g e => by simp [Value.ownBlock] at e, fun g e => by simp [Value.ownBlock] at e, fun k e => ?_⟩, fun k e e' => ?_, fun k e e' => ?_⟩, h.ok, ok_new _ _ (placesOf_bd n).1 (placesOf_bd n).2 (wordsOf_bd m).1 (wordsOf_bd m).2, h.bel.trans (hB.mono hs), h.reg, fun k e => Nat.le_trans hs (hx2 k (.inl (.inl e))).1⟩⟩
    · have := hx1 g (.inl (.inr (.inl e))); have := (hx2 g e').1; omega
    · have := hx1 g (.inl (.inr (.inr e))); have := (hx2 g e').1; omega
    · rcases e with ((e | e | e) | e | e) | e
      · omega
      · omega
      · omega
      · simp [Value.ownBlock] at e
      · simp [Value.ownBlock] at e
      · exact e.elim
    · have := hx1 k e; have := hB.size; omega
    · have := (hx2 k e).1; have := hx1 k (.inl (.inl e')); omega
    · have := hx1 k e; have := (hx2 k (.inl (.inl e'))).1; omega
/-- A ring's answer, the other one beside it. -/
theorem two_push (h : Two W w b1 m1 l1 s1 Y1 b2 m2 l2 s2 nob) {v : Value} {l : List Int} (hv : IntsIn w v l) (hl : l.length ≤ 65536) :
    Calls Tryd.prog 17 #[.pointer (some ⟨b1, 0, none⟩), v] w fun e w' => e = .returned (.int .i64 (s1.pushR l).2) ∧ Two W w' b1 m1 l1 (s1.pushR l).1 Y1 b2 m2 l2 s2 nob := by
  obtain ⟨X, hC, hX, hN⟩ := h.one
  exact (ctx_pushR hC hv hl).mono fun e w' ⟨he, hC', hK⟩ => ⟨he, hN _ _ hC' hK nob (fun _ e => e.elim)⟩
theorem two_pop (h : Two W w b1 m1 l1 s1 Y1 b2 m2 l2 s2 nob) :
    Calls Tryd.prog 20 #[.pointer (some ⟨b1, 0, none⟩)] w fun e w' => e = .returned (.int .i64 s1.popR.2) ∧ Two W w' b1 m1 l1 s1.popR.1 Y1 b2 m2 l2 s2 nob := by
  obtain ⟨X, hC, hX, hN⟩ := h.one
  exact (ctx_popR hC).mono fun e w' ⟨he, hC', hK⟩ => ⟨he, hN _ _ hC' hK nob (fun _ e => e.elim)⟩
/-- Of the law's own beside the other ring: what was told. -/
def told (v : Value) (w : World) : Nat → Prop := fun k => v.ownBlock = some k ∧ k < w.heap.size
theorem IntsIn.told {w0 w w' : World} {v : Value} {l : List Int} (h : IntsIn w0 v l) (hb : Below w0.heap.size w0 w) (hk : Kept (told v w0) w w') : IntsIn w' v l := by
  obtain ⟨A, c, rfl, hl, hc⟩ := h
  refine ⟨A, c, rfl, hl, fun hp => ?_⟩
  obtain ⟨g, o, rfl, hcell⟩ := hc hp
  refine ⟨g, o, rfl, fun i hi => ?_⟩
  have hlt := World.block_lt_of_cell? _ _ (hcell i hi)
  exact (World.cell?_of_block (a := ⟨g, o + i, none⟩) ((hk g ⟨by simp [Value.ownBlock], hlt⟩).trans (hb.block g hlt))).trans (hcell i hi)
theorem two_step (h : Two W w b1 m1 l1 s1 Y1 b2 m2 l2 s2 nob) (x : Bool) :
    Calls Tryd.prog 18 #[.pointer (some ⟨b1, 0, none⟩), .bool x] w fun e w' => ∃ A c, e = .returned (.tuple #[.slice A (s1.step x).2.1.length c, .bool (s1.step x).2.2.1, .int .i64 (s1.step x).2.2.2]) ∧ Two W w' b1 m1 l1 (s1.step x).1 Y1 b2 m2 l2 s2 (told (.slice A (s1.step x).2.1.length c) w') ∧ Kept Y1 w w' ∧ IntsIn w' (.slice A (s1.step x).2.1.length c) (s1.step x).2.1 := by
  obtain ⟨X, hC, hX, hN⟩ := h.one
  exact (ctx_step hC x).mono fun e w' ⟨A, c, he, hC', hK, hi, hf⟩ => ⟨A, c, he, hN _ _ hC' hK _ (fun k e => ⟨hf k e.1, e.2⟩), fun k e => hK k (hX k e), hi⟩
theorem two_reset (h : Two W w b1 m1 l1 s1 Y1 b2 m2 l2 s2 nob) :
    Calls Tryd.prog 25 #[.pointer (some ⟨b1, 0, none⟩)] w fun e w' => e = .returned (.tuple #[]) ∧ Two W w' b1 m1 l1 (RS.new s1.P s1.W) Y1 b2 m2 l2 s2 nob := by
  obtain ⟨X, hC, hX, hN⟩ := h.one
  exact (ctx_reset hC).mono fun e w' ⟨he, hC', hK⟩ => ⟨he, hN _ _ hC' hK nob (fun _ e => e.elim)⟩
theorem two_cells (h : Two W w b1 m1 l1 s1 Y1 b2 m2 l2 s2 nob) :
    Calls Tryd.prog 26 #[.pointer (some ⟨b1, 0, none⟩)] w fun e w' => ∃ v, e = .returned v ∧ IntsIn w' v s1.mem ∧ Below w.heap.size w w' := by
  obtain ⟨X, hC, hX, hN⟩ := h.one
  exact ctx_cells hC
end
theorem pushR_P (s : RS) (l : List Int) : (s.pushR l).1.P = s.P ∧ (s.pushR l).1.W = s.W := by unfold RS.pushR; repeat (first | exact ⟨rfl, rfl⟩ | split)
theorem popR_P (s : RS) : s.popR.1.P = s.P ∧ s.popR.1.W = s.W := by unfold RS.popR; repeat (first | exact ⟨rfl, rfl⟩ | split)
theorem step_P (s : RS) (x : Bool) : (s.step x).1.P = s.P ∧ (s.step x).1.W = s.W := by
  cases x
  · show s.stepR.1.P = s.P ∧ s.stepR.1.W = s.W
    unfold RS.stepR; repeat (first | exact ⟨rfl, rfl⟩ | split)
  · show s.stepW.1.P = s.P ∧ s.stepW.1.W = s.W
    unfold RS.stepW; repeat (first | exact ⟨rfl, rfl⟩ | split)
end Go.Proofs.YtelfclcljdjohaaDoor
