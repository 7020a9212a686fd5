/- Messages through a ring: its state, and the small functions' contracts. -/
import Derived.Test.YtelfclcljdjohaaDoorCell
import Derived.Deep.RegionHeld3
import Derived.Deep.RegionLawGrows
namespace Go.Proofs.YtelfclcljdjohaaDoor
open Go.RowKit

/-- places, words, the memory; of the push, and the pop: where it stands (0: none is under way), head, tail, its words. -/
structure RS where
  P : Nat
  W : Nat
  mem : List Int
  ia : Nat
  ih : Nat
  it : Nat
  il : List Int
  inn : Nat
  oa : Nat
  oh : Nat
  ot : Nat
  ol : List Int
def nxW (b : Nat) : Nat → Value
  | 0 => .nilFunc
  | 1 => .func (.func 40) #[.pointer (some ⟨b, 0, none⟩)] #[]
  | 2 => .func (.func 48) #[.pointer (some ⟨b, 0, none⟩)] #[]
  | _ => .func (.func 51) #[.pointer (some ⟨b, 0, none⟩)] #[]
def nxR (b : Nat) : Nat → Value
  | 0 => .nilFunc
  | 1 => .func (.func 42) #[.pointer (some ⟨b, 0, none⟩)] #[]
  | 2 => .func (.func 49) #[.pointer (some ⟨b, 0, none⟩)] #[]
  | _ => .func (.func 52) #[.pointer (some ⟨b, 0, none⟩)] #[]
def ringCells (s : RS) (b mb : Nat) (vi vo : Value) : Array Value :=
  #[.int .i64 s.P, .int .i64 s.W, .pointer (some ⟨mb, 0, none⟩), nxW b s.ia, .int .i64 s.ih, .int .i64 s.it, vi, .int .i64 s.inn, nxR b s.oa, .int .i64 s.oh, .int .i64 s.ot, vo, .int .i64 0]
/-- The blocks that the ring turns, beside the row of the pop's words. -/
def regS (b mb lb : Nat) : Nat → Prop := fun k => k = b ∨ k = mb ∨ k = lb
def turnS (b mb lb : Nat) (vo : Value) : Nat → Prop := fun k => regS b mb lb k ∨ vo.ownBlock = some k
theorem own_onl {S : Nat → Prop} {w w' : World} {base : Nat} {e : TypeId} {size n : Nat} {v : Value} {xs : List Value} (h : w.ownsRow base e size v n xs) (k : Only S w w') (hn : ∀ g, v.ownBlock = some g → ¬ S g) : w'.ownsRow base e size v n xs := by
  have hl := h.lt
  obtain ⟨h1, h2⟩ := h
  refine ⟨h1, ?_⟩
  rcases h2 with h2 | ⟨g, cap, cur, hv, hg, hh, r⟩
  · exact Or.inl h2
  · refine Or.inr ⟨g, cap, cur, hv, hg, ?_, r⟩
    have ho : v.ownBlock = some g := by rw [hv]; rfl
    exact (k.block g (hl g ho).2 (hn g ho)).trans hh
/-- The ring at b; its words lie off X, which are the law's own blocks. -/
structure RAt (w : World) (B b mb lb : Nat) (X : Nat → Prop) (s : RS) (vi vo : Value) (c : Int) : Prop where
  r : Blk w b 70 (ringCells s b mb vi vo)
  m : MemAt w mb lb s.mem c
  il : w.ownsRow B 3 1 vi s.il.length (nums s.il)
  ol : w.ownsRow B 3 1 vo s.ol.length (nums s.ol)
  si : ∀ g, vi.ownBlock = some g → ¬ turnS b mb lb vo g
  so : ∀ g, vo.ownBlock = some g → ¬ regS b mb lb g
  xi : ∀ g, vi.ownBlock = some g → ¬ X g
  xo : ∀ g, vo.ownBlock = some g → ¬ X g
  lx : ∀ k, X k → k < w.heap.size
section
variable {w w' : World} {B b mb lb : Nat} {X : Nat → Prop} {s s' : RS} {vi vo : Value} {c : Int}
theorem RAt.onl {S : Nat → Prop} (h : RAt w B b mb lb X s vi vo c) (k : Only S w w') (hr : ∀ k, S k → ¬ regS b mb lb k) (h1 : ∀ g, vi.ownBlock = some g → ¬ S g) (h2 : ∀ g, vo.ownBlock = some g → ¬ S g) : RAt w' B b mb lb X s vi vo c :=
  ⟨blk_onl h.r k fun e => hr _ e (.inl rfl), h.m.onl k (fun e => hr _ e (.inr (.inl rfl))) (fun e => hr _ e (.inr (.inr rfl))), own_onl h.il k h1, own_onl h.ol k h2, h.si, h.so, h.xi, h.xo, fun j e => Nat.lt_of_lt_of_le (h.lx j e) k.size⟩
theorem RAt.below (h : RAt w B b mb lb X s vi vo c) (hb : Below w.heap.size w w') : RAt w' B b mb lb X s vi vo c :=
  h.onl (S := fun _ => False) (onl_below hb) (fun _ e => e.elim) (fun _ _ e => e) (fun _ _ e => e)
theorem RAt.heap (h : RAt w B b mb lb X s vi vo c) (hk : w'.heap = w.heap) : RAt w' B b mb lb X s vi vo c := by
  have hm : MemAt w' mb lb s.mem c := ⟨h.m.m.of (by rw [hk]), h.m.d.of (by rw [hk]), h.m.le⟩
  have ho : ∀ {v : Value} {n : Nat} {xs : List Value}, w.ownsRow B 3 1 v n xs → w'.ownsRow B 3 1 v n xs := by
    intro v n xs h0
    obtain ⟨h1, h2⟩ := h0
    refine ⟨h1, ?_⟩
    rcases h2 with h2 | ⟨g, cap, cur, hv, hg, hh, r⟩
    · exact Or.inl h2
    · exact Or.inr ⟨g, cap, cur, hv, hg, by rw [hk]; exact hh, r⟩
  exact ⟨h.r.of (by rw [hk]), hm, ho h.il, ho h.ol, h.si, h.so, h.xi, h.xo, by rw [hk]; exact h.lx⟩
theorem RAt.c0 (h : RAt w B b mb lb X s vi vo c) : w.cell? ⟨b, 0, none⟩ = some (.int .i64 s.P) := (h.r.cell 0).trans rfl
theorem RAt.c1 (h : RAt w B b mb lb X s vi vo c) : w.cell? ⟨b, 1, none⟩ = some (.int .i64 s.W) := (h.r.cell 1).trans rfl
theorem RAt.c2 (h : RAt w B b mb lb X s vi vo c) : w.cell? ⟨b, 2, none⟩ = some (.pointer (some ⟨mb, 0, none⟩)) := (h.r.cell 2).trans rfl
theorem RAt.c3 (h : RAt w B b mb lb X s vi vo c) : w.cell? ⟨b, 3, none⟩ = some (nxW b s.ia) := (h.r.cell 3).trans rfl
theorem RAt.c4 (h : RAt w B b mb lb X s vi vo c) : w.cell? ⟨b, 4, none⟩ = some (.int .i64 s.ih) := (h.r.cell 4).trans rfl
theorem RAt.c5 (h : RAt w B b mb lb X s vi vo c) : w.cell? ⟨b, 5, none⟩ = some (.int .i64 s.it) := (h.r.cell 5).trans rfl
theorem RAt.c6 (h : RAt w B b mb lb X s vi vo c) : w.cell? ⟨b, 6, none⟩ = some vi := (h.r.cell 6).trans rfl
theorem RAt.c7 (h : RAt w B b mb lb X s vi vo c) : w.cell? ⟨b, 7, none⟩ = some (.int .i64 s.inn) := (h.r.cell 7).trans rfl
theorem RAt.c8 (h : RAt w B b mb lb X s vi vo c) : w.cell? ⟨b, 8, none⟩ = some (nxR b s.oa) := (h.r.cell 8).trans rfl
theorem RAt.c9 (h : RAt w B b mb lb X s vi vo c) : w.cell? ⟨b, 9, none⟩ = some (.int .i64 s.oh) := (h.r.cell 9).trans rfl
theorem RAt.c10 (h : RAt w B b mb lb X s vi vo c) : w.cell? ⟨b, 10, none⟩ = some (.int .i64 s.ot) := (h.r.cell 10).trans rfl
theorem RAt.c11 (h : RAt w B b mb lb X s vi vo c) : w.cell? ⟨b, 11, none⟩ = some vo := (h.r.cell 11).trans rfl
theorem RAt.ne (h : RAt w B b mb lb X s vi vo c) : b ≠ mb ∧ b ≠ lb := ⟨h.r.ne h.m.m (by decide), h.r.ne h.m.d (by decide)⟩
end

theorem side_w (b : Nat) (w : World) :
    Calls Tryd.prog 37 #[.pointer (some ⟨b, 0, none⟩), .bool true] w fun e w' => e = .returned (.pointer (some ⟨b, 3, none⟩)) ∧ w = w' := by
  go_enter Tryd.func37, Tryd.ntmps37
  go_wp2
  go_ret
  exact ⟨rfl, rfl⟩
theorem side_r (b : Nat) (w : World) :
    Calls Tryd.prog 37 #[.pointer (some ⟨b, 0, none⟩), .bool false] w fun e w' => e = .returned (.pointer (some ⟨b, 8, none⟩)) ∧ w = w' := by
  go_enter Tryd.func37, Tryd.ntmps37
  go_wp2
  go_ret
  exact ⟨rfl, rfl⟩
theorem nilf_W (b k : Nat) (w : World) : (binOp .neq 66 (nxW b k) .nilFunc).run Tryd.prog w = .ok (.bool (!decide (k = 0))) w := by
  rcases k with _ | _ | _ | k <;> kernel_rfl
theorem nilf_R (b k : Nat) (w : World) : (binOp .neq 66 (nxR b k) .nilFunc).run Tryd.prog w = .ok (.bool (!decide (k = 0))) w := by
  rcases k with _ | _ | _ | k <;> kernel_rfl
theorem guard_W (b k : Nat) (x y : Operand) (w : World) : Sem.run Tryd.prog (eqGuard .neq 66 x y (nxW b k) .nilFunc) w = .ok () w := by
  rcases k with _ | _ | _ | k <;> rfl
theorem guard_R (b k : Nat) (x y : Operand) (w : World) : Sem.run Tryd.prog (eqGuard .neq 66 x y (nxR b k) .nilFunc) w = .ok () w := by
  rcases k with _ | _ | _ | k <;> rfl
attribute [local go_sem ↓] nilf_W nilf_R guard_W guard_R
theorem busy_w {w : World} {B b mb lb : Nat} {X : Nat → Prop} {s : RS} {vi vo : Value} {c : Int} (h : RAt w B b mb lb X s vi vo c) :
    Calls Tryd.prog 15 #[.pointer (some ⟨b, 0, none⟩), .bool true] w fun e w' => e = .returned (.bool (!decide (s.ia = 0))) ∧ w = w' := by
  have c3 := h.c3
  clear h
  go_enter Tryd.func15, Tryd.ntmps15
  go_wp2_with (go_at_call 37; refine (side_w _ _).mono ?_; rintro e w' ⟨rfl, rfl⟩)
  go_ret
  exact ⟨rfl, rfl⟩
theorem busy_r {w : World} {B b mb lb : Nat} {X : Nat → Prop} {s : RS} {vi vo : Value} {c : Int} (h : RAt w B b mb lb X s vi vo c) :
    Calls Tryd.prog 15 #[.pointer (some ⟨b, 0, none⟩), .bool false] w fun e w' => e = .returned (.bool (!decide (s.oa = 0))) ∧ w = w' := by
  have c8 := h.c8
  clear h
  go_enter Tryd.func15, Tryd.ntmps15
  go_wp2_with (go_at_call 37; refine (side_r _ _).mono ?_; rintro e w' ⟨rfl, rfl⟩)
  go_ret
  exact ⟨rfl, rfl⟩
theorem busy_nil (x : Bool) (w : World) :
    Calls Tryd.prog 15 #[.pointer none, .bool x] w fun e w' => e = .returned (.bool false) ∧ w = w' := by
  go_enter Tryd.func15, Tryd.ntmps15
  go_wp2
  go_ret
  exact ⟨rfl, rfl⟩
theorem words_any {w : World} {B b mb lb : Nat} {X : Nat → Prop} {s : RS} {vi vo : Value} {c : Int} (h : RAt w B b mb lb X s vi vo c) :
    Calls Tryd.prog 11 #[.pointer (some ⟨b, 0, none⟩)] w fun e w' => e = .returned (.int .i64 s.W) ∧ w = w' := by
  have c1 := h.c1
  clear h
  go_enter Tryd.func11, Tryd.ntmps11
  go_wp2
  go_ret
  exact ⟨rfl, rfl⟩
theorem places_any {w : World} {B b mb lb : Nat} {X : Nat → Prop} {s : RS} {vi vo : Value} {c : Int} (h : RAt w B b mb lb X s vi vo c) :
    Calls Tryd.prog 12 #[.pointer (some ⟨b, 0, none⟩)] w fun e w' => e = .returned (.int .i64 s.P) ∧ w = w' := by
  have c0 := h.c0
  clear h
  go_enter Tryd.func12, Tryd.ntmps12
  go_wp2
  go_ret
  exact ⟨rfl, rfl⟩
theorem words_nil (w : World) : Calls Tryd.prog 11 #[.pointer none] w fun e w' => e = .returned (.int .i64 0) ∧ w = w' := by
  go_enter Tryd.func11, Tryd.ntmps11
  go_wp2
  go_ret
  exact ⟨rfl, rfl⟩
theorem places_nil (w : World) : Calls Tryd.prog 12 #[.pointer none] w fun e w' => e = .returned (.int .i64 0) ∧ w = w' := by
  go_enter Tryd.func12, Tryd.ntmps12
  go_wp2
  go_ret
  exact ⟨rfl, rfl⟩
theorem count_nil (w : World) : Calls Tryd.prog 14 #[.pointer none] w fun e w' => e = .returned (.int .i64 0) ∧ w = w' := by
  go_enter Tryd.func14, Tryd.ntmps14
  go_wp2
  go_ret
  exact ⟨rfl, rfl⟩
theorem cells_nil (w : World) : Calls Tryd.prog 26 #[.pointer none] w fun e w' => e = .returned (.slice none 0 0) ∧ w = w' := by
  go_enter Tryd.func26, Tryd.ntmps26
  go_wp2
  go_ret
  exact ⟨rfl, rfl⟩
theorem reset_nil (w : World) : Calls Tryd.prog 25 #[.pointer none] w fun e w' => e = .returned (.tuple #[]) ∧ w = w' := by
  go_enter Tryd.func25, Tryd.ntmps25
  go_wp2
  (try simp only [Exit.inBlock, Exit.then]); refine bodyPost_ret (results_none rfl _ _ _) rfl ?_
  exact ⟨rfl, rfl⟩
theorem pop_nil (w : World) : Calls Tryd.prog 20 #[.pointer none] w fun e w' => e = .returned (.int .i64 1) ∧ w = w' := by
  go_enter Tryd.func20, Tryd.ntmps20
  go_wp2
  go_ret
  exact ⟨rfl, rfl⟩
theorem push_nil (A : Option Addr) (n cc : Nat) (w : World) : Calls Tryd.prog 17 #[.pointer none, .slice A n cc] w fun e w' => e = .returned (.int .i64 3) ∧ w = w' := by
  go_enter Tryd.func17, Tryd.ntmps17
  go_wp2
  go_ret
  exact ⟨rfl, rfl⟩
theorem drop_nil (x : Bool) (w : World) : Calls Tryd.prog 19 #[.pointer none, .bool x] w fun e w' => e = .returned (.bool false) ∧ w = w' := by
  go_enter Tryd.func19, Tryd.ntmps19
  go_wp2_with fail
  refine (busy_nil x w).mono ?_
  rintro e w' ⟨rfl, rfl⟩
  go_wp2
  go_ret
  exact ⟨rfl, rfl⟩
theorem step_nil (x : Bool) (w : World) : Calls Tryd.prog 18 #[.pointer none, .bool x] w fun e w' => e = .returned (.tuple #[.slice none 0 0, .bool false, .int .i64 1]) ∧ w = w' := by
  go_enter Tryd.func18, Tryd.ntmps18
  go_wp2_with fail
  refine (busy_nil x w).mono ?_
  rintro e w' ⟨rfl, rfl⟩
  go_wp2
  go_ret3
  exact ⟨rfl, rfl⟩
end Go.Proofs.YtelfclcljdjohaaDoor
