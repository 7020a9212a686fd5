/- A register of four slots: its state, and the small functions' contracts. -/
import Derived.Test.YtmcelldklmjlkaaDoorCell
import Derived.Test.YtmcelldklmjlkaaDoorApp
import Derived.Deep.RegionHeld3
import Derived.Deep.MidRow
namespace Go.Proofs.YtmcelldklmjlkaaDoor
open Go.RowKit

/-- words, the memory; of the write, and the read: how many accesses are left, its pair, its place, its words. -/
structure FS where
  W : Nat
  mem : List Int
  iw : Nat
  ip : Nat
  iq : Nat
  il : List Int
  ow : Nat
  op : Nat
  oq : Nat
  ol : List Int
/-- v reads as the values l, which lie in Z. -/
def FnsX (w : World) (Z : Nat → Prop) (v : Value) (l : List Value) : Prop :=
  ∃ A c, v = .slice A l.length c ∧ l.length ≤ c ∧ (0 < l.length → ∃ g o, A = some ⟨g, o, none⟩ ∧ Z g ∧ ∀ i (h : i < l.length), w.cell? ⟨g, o + i, none⟩ = some l[i])
theorem FnsX.keep {w w' : World} {Z : Nat → Prop} {v : Value} {l : List Value} (h : FnsX w Z v l) (hk : ∀ g, Z g → w'.heap[g]? = w.heap[g]?) : FnsX w' Z v l := by
  obtain ⟨A, c, rfl, hl, hc⟩ := h
  refine ⟨A, c, rfl, hl, fun hp => ?_⟩
  obtain ⟨g, o, rfl, hx, hcell⟩ := hc hp
  exact ⟨g, o, rfl, hx, fun i hi => (World.cell?_of_block (a := ⟨g, o + i, none⟩) (hk g hx)).trans (hcell i hi)⟩
theorem FnsX.mono {w : World} {Z Y : Nat → Prop} {v : Value} {l : List Value} (h : FnsX w Z v l) (hY : ∀ k, Z k → Y k) : FnsX w Y v l := by
  obtain ⟨A, c, rfl, hl, hc⟩ := h
  exact ⟨A, c, rfl, hl, fun hp => by obtain ⟨g, o, rfl, hx, hcell⟩ := hc hp; exact ⟨g, o, rfl, hY g hx, hcell⟩⟩
/-- A variable that a closure has taken: it holds u. -/
def BoxX (w : World) (Z : Nat → Prop) (x : Nat) (t : TypeId) (u : Value) : Prop := Z x ∧ Blk w x t #[u]
theorem BoxX.keep {w w' : World} {Z : Nat → Prop} {x : Nat} {t : TypeId} {u : Value} (h : BoxX w Z x t u) (hk : ∀ g, Z g → w'.heap[g]? = w.heap[g]?) : BoxX w' Z x t u := ⟨h.1, h.2.of (hk x h.1)⟩
theorem BoxX.mono {w : World} {Z Y : Nat → Prop} {x : Nat} {t : TypeId} {u : Value} (h : BoxX w Z x t u) (hY : ∀ k, Z k → Y k) : BoxX w Y x t u := ⟨hY x h.1, h.2⟩
theorem BoxX.cell {w : World} {Z : Nat → Prop} {x : Nat} {t : TypeId} {u : Value} (h : BoxX w Z x t u) : w.cell? ⟨x, 0, none⟩ = some u := (Blk.cell h.2 0).trans rfl
def pt (x : Nat) : Value := .pointer (some ⟨x, 0, none⟩)
/-- The k-th access of a write of W words. -/
def wfn (xr xs : Nat) (xi : Nat → Nat) (W k : Nat) : Value :=
  if k = 0 then .func (.func 51) #[] #[.pointer (some ⟨xr, 0, none⟩), .pointer (some ⟨xs, 0, none⟩)]
  else if k = 1 then .func (.func 53) #[] #[.pointer (some ⟨xr, 0, none⟩), .pointer (some ⟨xs, 0, none⟩)]
  else if k < 2 + W then .func (.func 54) #[] #[.pointer (some ⟨xr, 0, none⟩), .pointer (some ⟨xs, 0, none⟩), .pointer (some ⟨xi (k - 2), 0, none⟩)]
  else if k = 2 + W then .func (.func 58) #[] #[.pointer (some ⟨xr, 0, none⟩), .pointer (some ⟨xs, 0, none⟩)]
  else .func (.func 59) #[] #[.pointer (some ⟨xr, 0, none⟩), .pointer (some ⟨xs, 0, none⟩)]
/-- The k-th access of a read. -/
def rfn (xr xs : Nat) (xi : Nat → Nat) (k : Nat) : Value :=
  if k = 0 then .func (.func 61) #[] #[.pointer (some ⟨xr, 0, none⟩), .pointer (some ⟨xs, 0, none⟩)]
  else if k = 1 then .func (.func 62) #[] #[.pointer (some ⟨xr, 0, none⟩), .pointer (some ⟨xs, 0, none⟩)]
  else if k = 2 then .func (.func 63) #[] #[.pointer (some ⟨xr, 0, none⟩), .pointer (some ⟨xs, 0, none⟩)]
  else .func (.func 64) #[] #[.pointer (some ⟨xs, 0, none⟩), .pointer (some ⟨xr, 0, none⟩), .pointer (some ⟨xi (k - 3), 0, none⟩)]
/-- The accesses that are left, n of m. -/
def lastOf (f : Nat → Value) (m n : Nat) : List Value := (List.range n).map fun j => f (m - n + j)
theorem lastOf_len (f : Nat → Value) (m n : Nat) : (lastOf f m n).length = n := by simp [lastOf]
theorem lastOf_get (f : Nat → Value) (m n i : Nat) (h : i < n) : (lastOf f m n)[i]? = some (f (m - n + i)) := by simp [lastOf, h]
structure Boxes (w : World) (Z : Nat → Prop) (b o W xr xs : Nat) (xi : Nat → Nat) : Prop where
  r : BoxX w Z xr 78 (.pointer (some ⟨b, 0, none⟩))
  s : BoxX w Z xs 105 (.pointer (some ⟨b, o, none⟩))
  i : ∀ i, i < W → BoxX w Z (xi i) 3 (.int .i64 i)
theorem Boxes.keep {w w' : World} {Z : Nat → Prop} {b o W xr xs : Nat} {xi : Nat → Nat} (h : Boxes w Z b o W xr xs xi) (hk : ∀ g, Z g → w'.heap[g]? = w.heap[g]?) : Boxes w' Z b o W xr xs xi :=
  ⟨h.r.keep hk, h.s.keep hk, fun i hi => (h.i i hi).keep hk⟩
theorem Boxes.mono {w : World} {Z Y : Nat → Prop} {b o W xr xs : Nat} {xi : Nat → Nat} (h : Boxes w Z b o W xr xs xi) (hY : ∀ k, Z k → Y k) : Boxes w Y b o W xr xs xi :=
  ⟨h.r.mono hY, h.s.mono hY, fun i hi => (h.i i hi).mono hY⟩
def LeftW (w : World) (Z : Nat → Prop) (b W n : Nat) (v : Value) : Prop :=
  (n = 0 ∧ v = .slice none 0 0) ∨ (0 < n ∧ n ≤ W + 4 ∧ ∃ xr xs xi, Boxes w Z b 2 W xr xs xi ∧ FnsX w Z v (lastOf (wfn xr xs xi W) (W + 4) n))
def LeftR (w : World) (Z : Nat → Prop) (b W n : Nat) (v : Value) : Prop :=
  (n = 0 ∧ v = .slice none 0 0) ∨ (0 < n ∧ n ≤ W + 3 ∧ ∃ xr xs xi, Boxes w Z b 6 W xr xs xi ∧ FnsX w Z v (lastOf (rfn xr xs xi) (W + 3) n))
theorem LeftW.keep {w w' : World} {Z : Nat → Prop} {b W n : Nat} {v : Value} (h : LeftW w Z b W n v) (hk : ∀ g, Z g → w'.heap[g]? = w.heap[g]?) : LeftW w' Z b W n v :=
  h.imp id fun ⟨h0, h1, xr, xs, xi, hb, hf⟩ => ⟨h0, h1, xr, xs, xi, hb.keep hk, hf.keep hk⟩
theorem LeftW.mono {w : World} {Z Y : Nat → Prop} {b W n : Nat} {v : Value} (h : LeftW w Z b W n v) (hY : ∀ k, Z k → Y k) : LeftW w Y b W n v :=
  h.imp id fun ⟨h0, h1, xr, xs, xi, hb, hf⟩ => ⟨h0, h1, xr, xs, xi, hb.mono hY, hf.mono hY⟩
theorem LeftR.keep {w w' : World} {Z : Nat → Prop} {b W n : Nat} {v : Value} (h : LeftR w Z b W n v) (hk : ∀ g, Z g → w'.heap[g]? = w.heap[g]?) : LeftR w' Z b W n v :=
  h.imp id fun ⟨h0, h1, xr, xs, xi, hb, hf⟩ => ⟨h0, h1, xr, xs, xi, hb.keep hk, hf.keep hk⟩
theorem LeftR.mono {w : World} {Z Y : Nat → Prop} {b W n : Nat} {v : Value} (h : LeftR w Z b W n v) (hY : ∀ k, Z k → Y k) : LeftR w Y b W n v :=
  h.imp id fun ⟨h0, h1, xr, xs, xi, hb, hf⟩ => ⟨h0, h1, xr, xs, xi, hb.mono hY, hf.mono hY⟩
theorem LeftW.form {w : World} {Z : Nat → Prop} {b W n : Nat} {v : Value} (h : LeftW w Z b W n v) : ∃ A c, v = .slice A n c := by
  rcases h with ⟨rfl, rfl⟩ | ⟨_, _, _, _, _, _, A, c, e, _⟩
  · exact ⟨_, _, rfl⟩
  · rw [lastOf_len] at e; exact ⟨A, c, e⟩
theorem LeftR.form {w : World} {Z : Nat → Prop} {b W n : Nat} {v : Value} (h : LeftR w Z b W n v) : ∃ A c, v = .slice A n c := by
  rcases h with ⟨rfl, rfl⟩ | ⟨_, _, _, _, _, _, A, c, e, _⟩
  · exact ⟨_, _, rfl⟩
  · rw [lastOf_len] at e; exact ⟨A, c, e⟩
def regCells (s : FS) (mb : Nat) (vl vi vr vo : Value) : Array Value :=
  #[.int .i64 s.W, .pointer (some ⟨mb, 0, none⟩), vl, .int .i64 s.ip, .int .i64 s.iq, vi, vr, .int .i64 s.op, .int .i64 s.oq, vo]
def regS (b mb lb : Nat) : Nat → Prop := fun k => k = b ∨ k = mb ∨ k = lb
def turnS (b mb lb : Nat) (vo : Value) : Nat → Prop := fun k => regS b mb lb k ∨ vo.ownBlock = some k
theorem own_onl {S : Nat → Prop} {w w' : World} {base : Nat} {e : TypeId} {size n : Nat} {v : Value} {xs : List Value} (h : w.ownsRow base e size v n xs) (k : Only S w w') (hn : ∀ g, v.ownBlock = some g → ¬ S g) : w'.ownsRow base e size v n xs := by
  have hl := h.lt
  obtain ⟨h1, h2⟩ := h
  refine ⟨h1, ?_⟩
  rcases h2 with h2 | ⟨g, cap, cur, hv, hg, hh, r⟩
  · exact Or.inl h2
  · refine Or.inr ⟨g, cap, cur, hv, hg, ?_, r⟩
    have ho : v.ownBlock = some g := by rw [hv]; rfl
    exact (k.block g (hl g ho).2 (hn g ho)).trans hh
/-- The register at b. X: the law's own blocks; Z: what is left of the accesses, and the words of the write, lie there. -/
structure FAt (w : World) (B b mb lb : Nat) (X Z : Nat → Prop) (s : FS) (vl vi vr vo : Value) (c : Int) : Prop where
  r : Blk w b 102 (regCells s mb vl vi vr vo)
  m : MemAt w mb lb s.mem c
  il : IntsX w Z vi s.il
  ol : w.ownsRow B 3 1 vo s.ol.length (nums s.ol)
  so : ∀ g, vo.ownBlock = some g → ¬ regS b mb lb g ∧ ¬ Z g ∧ ¬ X g
  z : ∀ k, Z k → k < w.heap.size ∧ ¬ regS b mb lb k ∧ ¬ X k
  x : ∀ k, X k → k < w.heap.size ∧ ¬ regS b mb lb k
/-- The law's blocks and the accesses are as they were. -/
def Kept (X : Nat → Prop) (w w' : World) : Prop := ∀ k, X k → w'.heap[k]? = w.heap[k]?
section
variable {w w' : World} {B b mb lb : Nat} {X Z : Nat → Prop} {s s' : FS} {vl vi vr vo : Value} {c : Int}
theorem FAt.ne (h : FAt w B b mb lb X Z s vl vi vr vo c) : b ≠ mb ∧ b ≠ lb := ⟨h.r.ne h.m.m (by decide), h.r.ne h.m.d (by decide)⟩
theorem FAt.zn (h : FAt w B b mb lb X Z s vl vi vr vo c) : ∀ k, Z k → ¬ turnS b mb lb vo k := fun k e f => f.elim (h.z k e).2.1 fun f => (h.so k f).2.1 e
theorem FAt.xn (h : FAt w B b mb lb X Z s vl vi vr vo c) : ∀ k, X k → ¬ turnS b mb lb vo k := fun k e f => f.elim (h.x k e).2 fun f => (h.so k f).2.2 e
theorem FAt.keptZ (h : FAt w B b mb lb X Z s vl vi vr vo c) (hO : Only (turnS b mb lb vo) w w') : Kept Z w w' := fun k e => hO.block k (h.z k e).1 (h.zn k e)
theorem FAt.keptX (h : FAt w B b mb lb X Z s vl vi vr vo c) (hO : Only (turnS b mb lb vo) w w') : Kept X w w' := fun k e => hO.block k (h.x k e).1 (h.xn k e)
theorem FAt.onl {S : Nat → Prop} (h : FAt w B b mb lb X Z s vl vi vr vo c) (k : Only S w w') (h1 : ∀ k, S k → ¬ regS b mb lb k) (h2 : ∀ k, S k → ¬ Z k) (h3 : ∀ g, vo.ownBlock = some g → ¬ S g) : FAt w' B b mb lb X Z s vl vi vr vo c :=
  ⟨blk_onl h.r k fun e => h1 _ e (.inl rfl), h.m.onl k (fun e => h1 _ e (.inr (.inl rfl))) (fun e => h1 _ e (.inr (.inr rfl))), h.il.keep fun g hg => k.block g (h.z g hg).1 fun e => h2 g e hg, own_onl h.ol k h3, h.so, fun j e => ⟨Nat.lt_of_lt_of_le (h.z j e).1 k.size, (h.z j e).2⟩, fun j e => ⟨Nat.lt_of_lt_of_le (h.x j e).1 k.size, (h.x j e).2⟩⟩
theorem FAt.below (h : FAt w B b mb lb X Z s vl vi vr vo c) (hb : Below w.heap.size w w') : FAt w' B b mb lb X Z s vl vi vr vo c :=
  h.onl (S := fun _ => False) (onl_below hb) (fun _ e => e.elim) (fun _ e => e.elim) (fun _ _ e => e)
theorem FAt.heap (h : FAt w B b mb lb X Z s vl vi vr vo c) (hk : w'.heap = w.heap) : FAt w' B b mb lb X Z s vl vi vr vo c :=
  ⟨h.r.of (by rw [hk]), ⟨h.m.m.of (by rw [hk]), h.m.d.of (by rw [hk]), h.m.le⟩, h.il.keep fun g _ => by rw [hk], by
    obtain ⟨h1, h2⟩ := h.ol
    refine ⟨h1, ?_⟩
    rcases h2 with h2 | ⟨g, cap, cur, hv, hg, hh, r⟩
    · exact Or.inl h2
    · exact Or.inr ⟨g, cap, cur, hv, hg, by rw [hk]; exact hh, r⟩, h.so, by rw [hk]; exact h.z, by rw [hk]; exact h.x⟩
/-- Behind an access of the memory. -/
theorem FAt.mem_ (h : FAt w B b mb lb X Z s vl vi vr vo c) {l : List Int} {c' : Int} (hm : MemAt w' mb lb l c') (k : Only (memS mb lb) w w') : FAt w' B b mb lb X Z { s with mem := l } vl vi vr vo c' := by
  have hne := h.ne
  have hm' : ∀ k, memS mb lb k → regS b mb lb k := fun k e => .inr e
  exact ⟨blk_onl h.r k fun e => e.elim hne.1 hne.2, hm, h.il.keep fun g hg => k.block g (h.z g hg).1 fun e => (h.z g hg).2.1 (hm' g e), own_onl h.ol k fun g hg e => (h.so g hg).1 (hm' g e), h.so, fun j e => ⟨Nat.lt_of_lt_of_le (h.z j e).1 k.size, (h.z j e).2⟩, fun j e => ⟨Nat.lt_of_lt_of_le (h.x j e).1 k.size, (h.x j e).2⟩⟩
/-- A cell of the register's struct is turned. -/
theorem FAt.set (h : FAt w B b mb lb X Z s vl vi vr vo c) (i : Nat) (u : Value) {s' : FS} {vl' vi' vr' : Value} (hc : regCells s' mb vl' vi' vr' vo = (regCells s mb vl vi vr vo).setIfInBounds i u) (hm : s'.mem = s.mem) (hi : IntsX w Z vi' s'.il) (ho : s'.ol = s.ol) :
    FAt (w.setCell ⟨b, i, none⟩ u) B b mb lb X Z s' vl' vi' vr' vo c := by
  have hne := h.ne
  have hO : Only (fun k => k = b) w (w.setCell ⟨b, i, none⟩ u) := onl_set (S := fun k => k = b) (onl_refl _ w) (p := ⟨b, i, none⟩) (.inl rfl) u
  refine ⟨?_, by rw [hm]; exact h.m.onl hO (Ne.symm hne.1) (Ne.symm hne.2), hi.keep fun g hg => hO.block g (h.z g hg).1 fun e => (h.z g hg).2.1 (.inl e), by rw [ho]; exact own_onl h.ol hO fun g hg e => (h.so g hg).1 (.inl e), h.so, fun j e => ⟨Nat.lt_of_lt_of_le (h.z j e).1 hO.size, (h.z j e).2⟩, fun j e => ⟨Nat.lt_of_lt_of_le (h.x j e).1 hO.size, (h.x j e).2⟩⟩
  rw [hc]
  exact h.r.set i u
theorem FAt.c0 (h : FAt w B b mb lb X Z s vl vi vr vo c) : w.cell? ⟨b, 0, none⟩ = some (.int .i64 s.W) := (h.r.cell 0).trans rfl
theorem FAt.c1 (h : FAt w B b mb lb X Z s vl vi vr vo c) : w.cell? ⟨b, 1, none⟩ = some (.pointer (some ⟨mb, 0, none⟩)) := (h.r.cell 1).trans rfl
theorem FAt.c2 (h : FAt w B b mb lb X Z s vl vi vr vo c) : w.cell? ⟨b, 2, none⟩ = some vl := (h.r.cell 2).trans rfl
theorem FAt.c3 (h : FAt w B b mb lb X Z s vl vi vr vo c) : w.cell? ⟨b, 3, none⟩ = some (.int .i64 s.ip) := (h.r.cell 3).trans rfl
theorem FAt.c4 (h : FAt w B b mb lb X Z s vl vi vr vo c) : w.cell? ⟨b, 4, none⟩ = some (.int .i64 s.iq) := (h.r.cell 4).trans rfl
theorem FAt.c5 (h : FAt w B b mb lb X Z s vl vi vr vo c) : w.cell? ⟨b, 5, none⟩ = some vi := (h.r.cell 5).trans rfl
theorem FAt.c6 (h : FAt w B b mb lb X Z s vl vi vr vo c) : w.cell? ⟨b, 6, none⟩ = some vr := (h.r.cell 6).trans rfl
theorem FAt.c7 (h : FAt w B b mb lb X Z s vl vi vr vo c) : w.cell? ⟨b, 7, none⟩ = some (.int .i64 s.op) := (h.r.cell 7).trans rfl
theorem FAt.c8 (h : FAt w B b mb lb X Z s vl vi vr vo c) : w.cell? ⟨b, 8, none⟩ = some (.int .i64 s.oq) := (h.r.cell 8).trans rfl
theorem FAt.c9 (h : FAt w B b mb lb X Z s vl vi vr vo c) : w.cell? ⟨b, 9, none⟩ = some vo := (h.r.cell 9).trans rfl
end
/-! ### The small functions -/
theorem side_w (b : Nat) (w : World) :
    Calls Tryd.prog 60 #[.pointer (some ⟨b, 0, none⟩), .bool true] w fun e w' => e = .returned (.pointer (some ⟨b, 2, none⟩)) ∧ w = w' := by
  go_enter Tryd.func60, Tryd.ntmps60
  go_wp2
  go_ret
  exact ⟨rfl, rfl⟩
theorem side_r (b : Nat) (w : World) :
    Calls Tryd.prog 60 #[.pointer (some ⟨b, 0, none⟩), .bool false] w fun e w' => e = .returned (.pointer (some ⟨b, 6, none⟩)) ∧ w = w' := by
  go_enter Tryd.func60, Tryd.ntmps60
  go_wp2
  go_ret
  exact ⟨rfl, rfl⟩
theorem at_any {w : World} {b : Nat} (o W p q i : Nat) (c0 : w.cell? ⟨b, 0, none⟩ = some (.int .i64 W)) (cp : w.cell? ⟨b, o + 1, none⟩ = some (.int .i64 p)) (cq : w.cell? ⟨b, o + 2, none⟩ = some (.int .i64 q)) (hW : W ≤ 6) (hp : p ≤ 1) (hq : q ≤ 1) (hi : i ≤ 6) :
    Calls Tryd.prog 56 #[.pointer (some ⟨b, 0, none⟩), .pointer (some ⟨b, o, none⟩), .int .i64 i] w fun e w' => e = .returned (.int .i64 ((4 + (2 * p + q) * W + i : Nat) : Int)) ∧ ∃ n, w' = w.drewN n := by
  have hm : (2 * p + q) * W ≤ 3 * 6 := Nat.mul_le_mul (by omega) hW
  have w1 : IntKind.i64.wrap (2 * (p : Int)) = 2 * (p : Int) := by rw [IntKind.wrap_i64]; omega
  have w2 : IntKind.i64.wrap (2 * (p : Int) + (q : Int)) = ((2 * p + q : Nat) : Int) := by rw [IntKind.wrap_i64]; omega
  have w3 : IntKind.i64.wrap (((2 * p + q : Nat) : Int) * (W : Int)) = (((2 * p + q) * W : Nat) : Int) := by rw [← Int.natCast_mul, IntKind.wrap_i64]; omega
  have w4 : IntKind.i64.wrap (4 + (((2 * p + q) * W : Nat) : Int)) = 4 + (((2 * p + q) * W : Nat) : Int) := by rw [IntKind.wrap_i64]; omega
  have w5 : IntKind.i64.wrap (4 + (((2 * p + q) * W : Nat) : Int) + (i : Int)) = ((4 + (2 * p + q) * W + i : Nat) : Int) := by rw [IntKind.wrap_i64]; omega
  generalize 4 + (2 * p + q) * W + i = z at *
  generalize (2 * p + q) * W = y at *
  generalize 2 * p + q = x at *
  clear hm hp hq hW hi
  go_enter Tryd.func56, Tryd.ntmps56
  go_wp2_with fail
  go_quiet (fail)
  go_wp2
  go_ret
  exact ⟨rfl, _, rfl⟩
theorem get_any {w : World} {b mb lb : Nat} {l : List Int} {c : Int} (h : MemAt w mb lb l c) (c1 : w.cell? ⟨b, 1, none⟩ = some (.pointer (some ⟨mb, 0, none⟩))) (i : Nat) (hi : i < l.length) :
    Calls Tryd.prog 52 #[.pointer (some ⟨b, 0, none⟩), .int .i64 i] w fun e w' => e = .returned (.int .i64 l[i]) ∧ MemAt w' mb lb l (wrap64 (c + 1)) ∧ Only (memS mb lb) w w' := by
  have HR := Lib.hid (read_ok h i hi)
  clear h
  go_enter Tryd.func52, Tryd.ntmps52
  go_wp2_with fail
  refine HR.out.mono ?_
  rintro e w' ⟨rfl, hM, hO⟩
  have HM := Lib.hid hM
  have HO := Lib.hid hO
  clear hM hO HR
  go_wp2
  go_ret
  exact ⟨rfl, HM.out, HO.out⟩
section
variable {w : World} {B b mb lb : Nat} {X Z : Nat → Prop} {s : FS} {vl vi vr vo : Value} {c : Int}
theorem left_w {A : Option Addr} {cc : Nat} (h : FAt w B b mb lb X Z s (.slice A s.iw cc) vi vr vo c) :
    Calls Tryd.prog 46 #[.pointer (some ⟨b, 0, none⟩), .bool true] w fun e w' => e = .returned (.int .i64 s.iw) ∧ w = w' := by
  have c2 := h.c2
  clear h
  go_enter Tryd.func46, Tryd.ntmps46
  go_wp2_with fail
  refine (side_w b w).mono ?_
  rintro e w' ⟨rfl, rfl⟩
  go_wp2
  go_ret
  exact ⟨rfl, rfl⟩
theorem left_r {A : Option Addr} {cc : Nat} (h : FAt w B b mb lb X Z s vl vi (.slice A s.ow cc) vo c) :
    Calls Tryd.prog 46 #[.pointer (some ⟨b, 0, none⟩), .bool false] w fun e w' => e = .returned (.int .i64 s.ow) ∧ w = w' := by
  have c6 := h.c6
  clear h
  go_enter Tryd.func46, Tryd.ntmps46
  go_wp2_with fail
  refine (side_r b w).mono ?_
  rintro e w' ⟨rfl, rfl⟩
  go_wp2
  go_ret
  exact ⟨rfl, rfl⟩
theorem drop_w {A : Option Addr} {cc : Nat} (h : FAt w B b mb lb X Z s (.slice A s.iw cc) vi vr vo c) :
    Calls Tryd.prog 37 #[.pointer (some ⟨b, 0, none⟩), .bool true] w fun e w' => e = .returned (.bool (decide (0 < s.iw))) ∧ FAt w' B b mb lb X Z { s with iw := 0 } (.slice none 0 0) vi vr vo c ∧ Only (regS b mb lb) w w' := by
  have c2 := h.c2
  have f2 := h.r.fr 2
  have HF := Lib.hid (h.set 2 (.slice none 0 0) (s' := { s with iw := 0 }) (vl' := .slice none 0 0) (vi' := vi) (vr' := vr) rfl rfl h.il rfl)
  have hd : decide ((0 : Int) < (s.iw : Int)) = decide (0 < s.iw) := by simp
  clear h
  go_enter Tryd.func37, Tryd.ntmps37
  go_wp2_with fail
  refine (side_w b w).mono ?_
  rintro e w' ⟨rfl, rfl⟩
  go_wp2
  go_ret
  exact ⟨by simp, HF.out, onl_set (onl_refl _ w) (p := ⟨b, 2, none⟩) (.inl (.inl rfl)) _⟩
theorem drop_r {A : Option Addr} {cc : Nat} (h : FAt w B b mb lb X Z s vl vi (.slice A s.ow cc) vo c) :
    Calls Tryd.prog 37 #[.pointer (some ⟨b, 0, none⟩), .bool false] w fun e w' => e = .returned (.bool (decide (0 < s.ow))) ∧ FAt w' B b mb lb X Z { s with ow := 0 } vl vi (.slice none 0 0) vo c ∧ Only (regS b mb lb) w w' := by
  have c6 := h.c6
  have f6 := h.r.fr 6
  have HF := Lib.hid (h.set 6 (.slice none 0 0) (s' := { s with ow := 0 }) (vl' := vl) (vi' := vi) (vr' := .slice none 0 0) rfl rfl h.il rfl)
  have hd : decide ((0 : Int) < (s.ow : Int)) = decide (0 < s.ow) := by simp
  clear h
  go_enter Tryd.func37, Tryd.ntmps37
  go_wp2_with fail
  refine (side_r b w).mono ?_
  rintro e w' ⟨rfl, rfl⟩
  go_wp2
  go_ret
  exact ⟨by simp, HF.out, onl_set (onl_refl _ w) (p := ⟨b, 6, none⟩) (.inl (.inl rfl)) _⟩
end
/-! ### A register that is not there -/
theorem left_nil (x : Bool) (w : World) : Calls Tryd.prog 46 #[.pointer none, .bool x] w fun e w' => e = .returned (.int .i64 0) ∧ w = w' := by
  go_enter Tryd.func46, Tryd.ntmps46
  go_wp2
  go_ret
  exact ⟨rfl, rfl⟩
theorem drop_nil (x : Bool) (w : World) : Calls Tryd.prog 37 #[.pointer none, .bool x] w fun e w' => e = .returned (.bool false) ∧ w = w' := by
  go_enter Tryd.func37, Tryd.ntmps37
  go_wp2
  go_ret
  exact ⟨rfl, rfl⟩
theorem step_nil (x : Bool) (w : World) : Calls Tryd.prog 36 #[.pointer none, .bool x] w fun e w' => e = .returned (.tuple #[.slice none 0 0, .bool false, .int .i64 2]) ∧ w = w' := by
  go_enter Tryd.func36, Tryd.ntmps36
  go_wp2
  go_ret3
  exact ⟨rfl, rfl⟩
end Go.Proofs.YtmcelldklmjlkaaDoor
