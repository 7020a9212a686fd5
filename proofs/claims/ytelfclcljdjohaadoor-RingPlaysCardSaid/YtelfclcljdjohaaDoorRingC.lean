/- Messages through a ring: the push's accesses. -/
import Derived.Test.YtelfclcljdjohaaDoorRingB
import Derived.Laws.EntriesVeiled
namespace Go.Proofs.YtelfclcljdjohaaDoor
open Go.RowKit

def RS.hd (s : RS) : Nat := (s.mem[0]?.getD 0).toNat
def RS.tl (s : RS) : Nat := (s.mem[1]?.getD 0).toNat
structure RS.ok (s : RS) : Prop where
  p1 : 1 ≤ s.P
  p8 : s.P ≤ 8
  w1 : 1 ≤ s.W
  w6 : s.W ≤ 6
  len : s.mem.length = 2 + s.P * s.W
  h : s.mem[0]? = some ((s.hd : Nat) : Int)
  h2 : s.hd < 2 * s.P
  t : s.mem[1]? = some ((s.tl : Nat) : Int)
  t2 : s.tl < 2 * s.P
  ia : s.ia ≤ 3
  oa : s.oa ≤ 3
  ih : s.ih < 2 * s.P
  it : s.it < 2 * s.P
  oh : s.oh < 2 * s.P
  ot : s.ot < 2 * s.P
  inn : s.inn ≤ s.W
  il : s.ia ≠ 0 → s.il.length = s.W ∧ ∀ v ∈ s.il, 0 ≤ v ∧ v ≤ 2147483647
  ol : s.ol.length ≤ s.W
theorem run_mkf (P : Program) (fn : Fn) (first cap : Array Value) (w : World) : (Instr.makeFunc fn first cap).run P w = .ok (.func fn first cap) w := rfl
theorem events_mkf (P : Program) (fn : Fn) (first cap : Array Value) (w : World) (es : Array Event) : (Instr.makeFunc fn first cap).events P w es = es := rfl
attribute [local go_sem] run_mkf events_mkf
section
variable {w w' : World} {B b mb lb : Nat} {X : Nat → Prop} {s s' : RS} {vi vo vi' vo' : Value} {c c' : Int}
/-- Behind an access of the memory. -/
theorem RAt.mem_ (h : RAt w B b mb lb X s vi vo c) {l : List Int} (hm : MemAt w' mb lb l c') (hO : Only (memS mb lb) w w') : RAt w' B b mb lb X { s with mem := l } vi vo c' := by
  have hne := h.ne
  exact ⟨blk_onl h.r hO (fun e => e.elim hne.1 hne.2), hm, own_onl h.il hO (fun g hg e => h.si g hg (.inl (.inr e))), own_onl h.ol hO (fun g hg e => h.so g hg (.inr e)), h.si, h.so, h.xi, h.xo, fun j e => Nat.lt_of_lt_of_le (h.lx j e) hO.size⟩
/-- A store into the ring's own block. -/
theorem RAt.upd (h : RAt w B b mb lb X s vi vo c) (i : Nat) (u : Value) (hr : (ringCells s b mb vi vo).setIfInBounds i u = ringCells s' b mb vi' vo') (hm : s'.mem = s.mem)
    (hil : w.ownsRow B 3 1 vi' s'.il.length (nums s'.il)) (hol : w.ownsRow B 3 1 vo' s'.ol.length (nums s'.ol)) (hsi : ∀ g, vi'.ownBlock = some g → ¬ turnS b mb lb vo' g) (hso : ∀ g, vo'.ownBlock = some g → ¬ regS b mb lb g)
    (hxi : ∀ g, vi'.ownBlock = some g → ¬ X g) (hxo : ∀ g, vo'.ownBlock = some g → ¬ X g) : RAt (w.setCell ⟨b, i, none⟩ u) B b mb lb X s' vi' vo' c := by
  have hO : Only (fun k => k = b) w (w.setCell ⟨b, i, none⟩ u) := onl_set (S := fun k => k = b) (onl_refl _ w) (p := ⟨b, i, none⟩) (.inl rfl) u
  have hb := h.r.set i u
  rw [hr] at hb
  have hne := h.ne
  refine ⟨hb, ?_, own_onl hil hO (fun g hg e => hsi g hg (.inl (.inl e))), own_onl hol hO (fun g hg e => hso g hg (.inl e)), hsi, hso, hxi, hxo, fun j e => Nat.lt_of_lt_of_le (h.lx j e) hO.size⟩
  rw [hm]
  exact h.m.onl hO (fun e => hne.1 e.symm) (fun e => hne.2 e.symm)
/-- The same where no words turn. -/
theorem RAt.same (h : RAt w B b mb lb X s vi vo c) (i : Nat) (u : Value) (hr : (ringCells s b mb vi vo).setIfInBounds i u = ringCells s' b mb vi vo) (hm : s'.mem = s.mem) (hil : s'.il = s.il) (hol : s'.ol = s.ol) : RAt (w.setCell ⟨b, i, none⟩ u) B b mb lb X s' vi vo c :=
  h.upd i u hr hm (by rw [hil]; exact h.il) (by rw [hol]; exact h.ol) h.si h.so h.xi h.xo
theorem set_only (w : World) (b mb lb i : Nat) (u : Value) : Only (regS b mb lb) w (w.setCell ⟨b, i, none⟩ u) := onl_set (onl_refl _ w) (p := ⟨b, i, none⟩) (.inl (.inl rfl)) u
end
theorem hd_get {s : RS} (h : s.ok) (hp : 0 < s.mem.length) : s.mem[0] = ((s.hd : Nat) : Int) := by
  have := h.h
  rw [List.getElem?_eq_getElem hp] at this
  exact Option.some.inj this
theorem tl_get {s : RS} (h : s.ok) (hp : 1 < s.mem.length) : s.mem[1] = ((s.tl : Nat) : Int) := by
  have := h.t
  rw [List.getElem?_eq_getElem hp] at this
  exact Option.some.inj this

set_option maxRecDepth 100000 in
set_option maxHeartbeats 800000 in
theorem head_any {w : World} {B b mb lb : Nat} {X : Nat → Prop} {s : RS} {vi vo : Value} {c : Int} (h : RAt w B b mb lb X s vi vo c) (hk : s.ok) :
    Calls Tryd.prog 40 #[.pointer (some ⟨b, 0, none⟩)] w fun e w' => e = .returned (.tuple #[.bool false, .int .i64 0]) ∧ RAt w' B b mb lb X { s with ih := s.hd, ia := 2 } vi vo (wrap64 (c + 1)) ∧ Only (regS b mb lb) w w' := by
  have hp : 0 < s.mem.length := by rw [hk.len]; omega
  have hg := get_any h.m h.c2 0 hp
  rw [hd_get hk hp] at hg
  have HG := Lib.hid hg
  have H := Lib.hid h
  clear h hk hg hp
  go_enter Tryd.func40, Tryd.ntmps40
  go_wp2_with fail
  refine HG.out.mono ?_
  rintro e w1 ⟨rfl, hM, hO⟩
  have h1 := H.out.mem_ hM hO
  have c4 := h1.c4
  have c3 := h1.c3
  have f4 := h1.r.fr 4
  have f3 := h1.r.fr 3
  have h2 := h1.same 4 (.int .i64 s.hd) (s' := { s with ih := s.hd }) rfl rfl rfl rfl
  have h3 := h2.same 3 (nxW b 2) (s' := { s with ih := s.hd, ia := 2 }) rfl rfl rfl rfl
  have H3 := Lib.hid h3
  have HO := Lib.hid (onl_trans (onl_mono (T := regS b mb lb) hO fun k e => .inr e) (onl_trans (set_only w1 b mb lb 4 (.int .i64 s.hd)) (set_only _ b mb lb 3 (nxW b 2))))
  clear hM hO h1 h2 h3 HG H
  go_wp2
  go_ret2
  exact ⟨rfl, H3.out, HO.out⟩
end Go.Proofs.YtelfclcljdjohaaDoor
