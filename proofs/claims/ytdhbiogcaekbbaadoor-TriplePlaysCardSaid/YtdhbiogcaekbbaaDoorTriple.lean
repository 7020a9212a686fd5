/- The register of three slots: its functions' contracts (1). -/
import Derived.Test.YtdhbiogcaekbbaaDoorCell
namespace Go.Proofs.YtdhbiogcaekbbaaDoor
open Go.RowKit

/-- the words, the memory; of the write, and the read: where it stands, its own message, its words, how many are over. -/
structure TS where
  W : Nat
  mem : List Int
  ia : Nat
  io : Nat
  il : List Int
  inn : Nat
  oa : Nat
  oo : Nat
  ol : List Int
  x : Nat := 0

/-- v reads as l, and has no room to spare. -/
def FullIn (w : World) (v : Value) (l : List Int) : Prop := IntsIn w v l ∧ ∃ A, v = .slice A l.length l.length
theorem ints_onl {S : Nat → Prop} {w w' : World} {v : Value} {l : List Int} (h : IntsIn w v l) (k : Only S w w') (hn : ∀ g, v.ownBlock = some g → ¬ S g) : IntsIn w' v l := by
  obtain ⟨A, c, rfl, hl, hc⟩ := h
  refine ⟨A, c, rfl, hl, fun hp => ?_⟩
  obtain ⟨g, o, rfl, hcell⟩ := hc hp
  exact ⟨g, o, rfl, fun i hi => cell_onl (hcell i hi) k (hn g rfl)⟩
theorem full_onl {S : Nat → Prop} {w w' : World} {v : Value} {l : List Int} (h : FullIn w v l) (k : Only S w w') (hn : ∀ g, v.ownBlock = some g → ¬ S g) : FullIn w' v l := ⟨ints_onl h.1 k hn, h.2⟩

def regCells (s : TS) (mb : Nat) (vi vo : Value) : Array Value :=
  #[.int .i64 s.W, .pointer (some ⟨mb, 0, none⟩), .int .i64 s.ia, .int .i64 s.io, vi, .int .i64 s.inn, .int .i64 s.oa, .int .i64 s.oo, vo, .int .i64 s.ol.length]
/-- The blocks that the register turns. -/
def regS (b mb lb : Nat) : Nat → Prop := fun k => k = b ∨ k = mb ∨ k = lb
/-- .. and a block that its words keep off: the law's own. -/
def offS (b mb lb x : Nat) : Nat → Prop := fun k => regS b mb lb k ∨ k = x
structure TAt (w : World) (b mb lb : Nat) (s : TS) (vi vo : Value) (c : Int) : Prop where
  r : Blk w b 72 (regCells s mb vi vo)
  m : MemAt w mb lb s.mem c
  il : IntsIn w vi s.il
  ol : FullIn w vo s.ol
  sx : ∀ g, vi.ownBlock = some g → ¬ offS b mb lb s.x g
  sy : ∀ g, vo.ownBlock = some g → ¬ offS b mb lb s.x g
  lx : s.x < w.heap.size
section
variable {w w' : World} {b mb lb : Nat} {s : TS} {vi vo : Value} {c : Int}
theorem TAt.si (h : TAt w b mb lb s vi vo c) : ∀ g, vi.ownBlock = some g → ¬ regS b mb lb g := fun g hg e => h.sx g hg (.inl e)
theorem TAt.so (h : TAt w b mb lb s vi vo c) : ∀ g, vo.ownBlock = some g → ¬ regS b mb lb g := fun g hg e => h.sy g hg (.inl e)
theorem TAt.below (h : TAt w b mb lb s vi vo c) (hb : Below w.heap.size w w') : TAt w' b mb lb s vi vo c :=
  ⟨h.r.below hb h.r.lt, h.m.onl (onl_below (S := fun _ => False) hb) id id, h.il.below hb, ⟨h.ol.1.below hb, h.ol.2⟩, h.sx, h.sy, Nat.lt_of_lt_of_le h.lx hb.size⟩
theorem TAt.c0 (h : TAt w b mb lb s vi vo c) : w.cell? ⟨b, 0, none⟩ = some (.int .i64 s.W) := (h.r.cell 0).trans rfl
theorem TAt.c1 (h : TAt w b mb lb s vi vo c) : w.cell? ⟨b, 1, none⟩ = some (.pointer (some ⟨mb, 0, none⟩)) := (h.r.cell 1).trans rfl
theorem TAt.c2 (h : TAt w b mb lb s vi vo c) : w.cell? ⟨b, 2, none⟩ = some (.int .i64 s.ia) := (h.r.cell 2).trans rfl
theorem TAt.c3 (h : TAt w b mb lb s vi vo c) : w.cell? ⟨b, 3, none⟩ = some (.int .i64 s.io) := (h.r.cell 3).trans rfl
theorem TAt.c4 (h : TAt w b mb lb s vi vo c) : w.cell? ⟨b, 4, none⟩ = some vi := (h.r.cell 4).trans rfl
theorem TAt.c5 (h : TAt w b mb lb s vi vo c) : w.cell? ⟨b, 5, none⟩ = some (.int .i64 s.inn) := (h.r.cell 5).trans rfl
theorem TAt.c6 (h : TAt w b mb lb s vi vo c) : w.cell? ⟨b, 6, none⟩ = some (.int .i64 s.oa) := (h.r.cell 6).trans rfl
theorem TAt.c7 (h : TAt w b mb lb s vi vo c) : w.cell? ⟨b, 7, none⟩ = some (.int .i64 s.oo) := (h.r.cell 7).trans rfl
theorem TAt.c8 (h : TAt w b mb lb s vi vo c) : w.cell? ⟨b, 8, none⟩ = some vo := (h.r.cell 8).trans rfl
theorem TAt.c9 (h : TAt w b mb lb s vi vo c) : w.cell? ⟨b, 9, none⟩ = some (.int .i64 s.ol.length) := (h.r.cell 9).trans rfl
theorem TAt.ne (h : TAt w b mb lb s vi vo c) : b ≠ mb ∧ b ≠ lb := ⟨h.r.ne h.m.m (by decide), h.r.ne h.m.d (by decide)⟩
end

theorem side_w (b : Nat) (w : World) :
    Calls Tryd.prog 32 #[.pointer (some ⟨b, 0, none⟩), .bool true] w fun e w' => e = .returned (.pointer (some ⟨b, 2, none⟩)) ∧ w = w' := by
  go_enter Tryd.func32, Tryd.ntmps32
  go_wp2
  go_ret
  exact ⟨rfl, rfl⟩
theorem side_r (b : Nat) (w : World) :
    Calls Tryd.prog 32 #[.pointer (some ⟨b, 0, none⟩), .bool false] w fun e w' => e = .returned (.pointer (some ⟨b, 6, none⟩)) ∧ w = w' := by
  go_enter Tryd.func32, Tryd.ntmps32
  go_wp2
  go_ret
  exact ⟨rfl, rfl⟩
theorem busy_w {w : World} {b mb lb : Nat} {s : TS} {vi vo : Value} {c : Int} (h : TAt w b mb lb s vi vo c) :
    Calls Tryd.prog 15 #[.pointer (some ⟨b, 0, none⟩), .bool true] w fun e w' => e = .returned (.bool ((s.ia : Int) != 0)) ∧ w = w' := by
  have c2 := h.c2
  clear h
  go_enter Tryd.func15, Tryd.ntmps15
  go_wp2_with (go_at_call 32; refine (side_w _ _).mono ?_; rintro e w' ⟨rfl, rfl⟩)
  go_ret
  exact ⟨rfl, rfl⟩
theorem busy_r {w : World} {b mb lb : Nat} {s : TS} {vi vo : Value} {c : Int} (h : TAt w b mb lb s vi vo c) :
    Calls Tryd.prog 15 #[.pointer (some ⟨b, 0, none⟩), .bool false] w fun e w' => e = .returned (.bool ((s.oa : Int) != 0)) ∧ w = w' := by
  have c6 := h.c6
  clear h
  go_enter Tryd.func15, Tryd.ntmps15
  go_wp2_with (go_at_call 32; refine (side_r _ _).mono ?_; rintro e w' ⟨rfl, rfl⟩)
  go_ret
  exact ⟨rfl, rfl⟩
theorem busy_nil (x : Bool) (w : World) :
    Calls Tryd.prog 15 #[.pointer none, .bool x] w fun e w' => e = .returned (.bool false) ∧ w = w' := by
  go_enter Tryd.func15, Tryd.ntmps15
  go_wp2
  go_ret
  exact ⟨rfl, rfl⟩
end Go.Proofs.YtdhbiogcaekbbaaDoor
