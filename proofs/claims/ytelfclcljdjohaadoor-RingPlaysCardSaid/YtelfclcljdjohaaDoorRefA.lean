/- The reference's ring: its value. -/
import Derived.Test.YtelfclcljdjohaaDoorRingZ
import Derived.Test.YtelfclcljdjohaaDoorRingX
import Derived.Test.YtelfclcljdjohaaDoorIntsX
import Derived.Test.YtelfclcljdjohaaDoorWide
namespace Go.Proofs.YtelfclcljdjohaaDoor
open Go.RowKit

/-- A slice: where, how long, with what room. -/
structure Sl where
  A : Option Addr
  n : Nat
  c : Nat
def Sl.v (s : Sl) : Value := .slice s.A s.n s.c
structure RF where
  D : Int
  W : Int
  H : Int
  T : Int
  d0 : Sl
  d1 : Sl
  d2 : Sl
  d3 : Sl
  d4 : Sl
  d5 : Sl
  d6 : Sl
  d7 : Sl
  pu : Bool
  po : Bool
  ma : Int
  tk : Int
  sh : Int
  st : Int
  oh : Int
  ot : Int
  inn : Sl
  out : Sl
def RF.cells (r : RF) : Array Value := #[.int .i64 r.D, .int .i64 r.W, .int .i64 r.H, .int .i64 r.T, r.d0.v, r.d1.v, r.d2.v, r.d3.v, r.d4.v, r.d5.v, r.d6.v, r.d7.v, .bool r.pu, .bool r.po, .int .i64 r.ma, .int .i64 r.tk, .int .i64 r.sh, .int .i64 r.st, .int .i64 r.oh, .int .i64 r.ot, r.inn.v, r.out.v]
def RF.v (r : RF) : Value := .agg r.cells
theorem RF.ones (r : RF) : r.cells.all (·.oneCell') = true := by simp [RF.cells, Sl.v, Value.oneCell']
def RF.d (r : RF) : Nat → Sl
  | 0 => r.d0
  | 1 => r.d1
  | 2 => r.d2
  | 3 => r.d3
  | 4 => r.d4
  | 5 => r.d5
  | 6 => r.d6
  | _ => r.d7
def RF.setd (r : RF) (s : Sl) : Nat → RF
  | 0 => { r with d0 := s }
  | 1 => { r with d1 := s }
  | 2 => { r with d2 := s }
  | 3 => { r with d3 := s }
  | 4 => { r with d4 := s }
  | 5 => { r with d5 := s }
  | 6 => { r with d6 := s }
  | _ => { r with d7 := s }
theorem RF.cd (r : RF) (i : Nat) (h : i < 8) : r.cells[4 + i]? = some (r.d i).v := by
  match i, h with
  | 0, _ => rfl
  | 1, _ => rfl
  | 2, _ => rfl
  | 3, _ => rfl
  | 4, _ => rfl
  | 5, _ => rfl
  | 6, _ => rfl
  | 7, _ => rfl
theorem RF.cset (r : RF) (s : Sl) (i : Nat) (h : i < 8) : r.cells.setIfInBounds (4 + i) s.v = (r.setd s i).cells := by
  match i, h with
  | 0, _ => rfl
  | 1, _ => rfl
  | 2, _ => rfl
  | 3, _ => rfl
  | 4, _ => rfl
  | 5, _ => rfl
  | 6, _ => rfl
  | 7, _ => rfl
theorem RF.dset (r : RF) (s : Sl) (i j : Nat) (h : i < 8) (hj : j < 8) : (r.setd s i).d j = if j = i then s else r.d j := by
  match i, h with
  | 0, _ =>
    match j, hj with
    | 0, _ => rfl
    | 1, _ => rfl
    | 2, _ => rfl
    | 3, _ => rfl
    | 4, _ => rfl
    | 5, _ => rfl
    | 6, _ => rfl
    | 7, _ => rfl
  | 1, _ =>
    match j, hj with
    | 0, _ => rfl
    | 1, _ => rfl
    | 2, _ => rfl
    | 3, _ => rfl
    | 4, _ => rfl
    | 5, _ => rfl
    | 6, _ => rfl
    | 7, _ => rfl
  | 2, _ =>
    match j, hj with
    | 0, _ => rfl
    | 1, _ => rfl
    | 2, _ => rfl
    | 3, _ => rfl
    | 4, _ => rfl
    | 5, _ => rfl
    | 6, _ => rfl
    | 7, _ => rfl
  | 3, _ =>
    match j, hj with
    | 0, _ => rfl
    | 1, _ => rfl
    | 2, _ => rfl
    | 3, _ => rfl
    | 4, _ => rfl
    | 5, _ => rfl
    | 6, _ => rfl
    | 7, _ => rfl
  | 4, _ =>
    match j, hj with
    | 0, _ => rfl
    | 1, _ => rfl
    | 2, _ => rfl
    | 3, _ => rfl
    | 4, _ => rfl
    | 5, _ => rfl
    | 6, _ => rfl
    | 7, _ => rfl
  | 5, _ =>
    match j, hj with
    | 0, _ => rfl
    | 1, _ => rfl
    | 2, _ => rfl
    | 3, _ => rfl
    | 4, _ => rfl
    | 5, _ => rfl
    | 6, _ => rfl
    | 7, _ => rfl
  | 6, _ =>
    match j, hj with
    | 0, _ => rfl
    | 1, _ => rfl
    | 2, _ => rfl
    | 3, _ => rfl
    | 4, _ => rfl
    | 5, _ => rfl
    | 6, _ => rfl
    | 7, _ => rfl
  | 7, _ =>
    match j, hj with
    | 0, _ => rfl
    | 1, _ => rfl
    | 2, _ => rfl
    | 3, _ => rfl
    | 4, _ => rfl
    | 5, _ => rfl
    | 6, _ => rfl
    | 7, _ => rfl
theorem rinfo : (Tryd.prog.info? 51).map (·.size) = some 22 := by kernel_rfl
/-- The words of a place. -/
def RS.row (s : RS) (i : Nat) : List Int := (s.mem.drop (2 + i * s.W)).take s.W
theorem row_at (s : RS) (i j : Nat) (hj : j < s.W) : (s.row i)[j]? = s.mem[2 + i * s.W + j]? := by
  unfold RS.row
  rw [List.getElem?_take, if_pos hj, List.getElem?_drop]
theorem row_in {s : RS} (h : s.ok) (i : Nat) (hi : i < s.P) : 2 + i * s.W + s.W ≤ s.mem.length := by
  have := h.len
  have := Nat.mul_le_mul_right s.W (show i + 1 ≤ s.P from hi)
  rw [Nat.add_mul] at this
  omega
theorem row_len {s : RS} (h : s.ok) (i : Nat) (hi : i < s.P) : (s.row i).length = s.W := by
  have := row_in h i hi
  unfold RS.row
  rw [List.length_take, List.length_drop]
  omega
theorem row_same {s s' : RS} (hW : s'.W = s.W) (i : Nat) (h : ∀ j, j < s.W → s'.mem[2 + i * s.W + j]? = s.mem[2 + i * s.W + j]?) : s'.row i = s.row i := by
  apply List.ext_getElem?
  intro j
  by_cases hj : j < s.W
  · rw [row_at _ _ _ (by rw [hW]; exact hj), row_at _ _ _ hj, hW]
    exact h j hj
  · unfold RS.row
    rw [hW, List.getElem?_take, List.getElem?_take, if_neg hj, if_neg hj]
theorem row_put {s s' : RS} (h : s.ok) (hW : s'.W = s.W) (i k : Nat) (v : Int) (hi : i < s.P) (hk : k < s.W) (hm : s'.mem = s.mem.set (2 + i * s.W + k) v) : s'.row i = (s.row i).set k v := by
  have hin := row_in h i hi
  have hl := row_len h i hi
  apply List.ext_getElem?
  intro j
  by_cases hj : j < s.W
  · rw [row_at _ _ _ (by rw [hW]; exact hj), hW, hm]
    by_cases e : j = k
    · subst e
      rw [List.getElem?_set_self (by omega), List.getElem?_set_self (by omega)]
    · rw [List.getElem?_set_ne (by omega), List.getElem?_set_ne (by omega), row_at _ _ _ hj]
  · unfold RS.row
    rw [hW, List.getElem?_take, if_neg hj, List.getElem?_set_ne (by omega), List.getElem?_take, if_neg hj]
/-- The reference's ring is the state s. -/
structure RefIn (w : World) (X : Nat → Prop) (r : RF) (s : RS) : Prop where
  D : r.D = s.P
  W : r.W = s.W
  H : r.H = s.hd
  T : r.T = s.tl
  d : ∀ i, i < s.P → IntsX w X (r.d i).v (s.row i)
  pu : r.pu = !decide (s.ia = 0)
  po : r.po = !decide (s.oa = 0)
  a1 : s.ia = 1 → r.ma = 0
  a2 : s.ia = 2 → r.ma = 1 ∧ r.sh = s.ih
  a3 : s.ia = 3 → r.ma = 2 + s.inn ∧ r.st = s.it
  il : s.ia ≠ 0 → IntsX w X r.inn.v s.il
  az : s.ia = 1 ∨ s.ia = 2 → s.inn = 0
  cz : s.oa = 1 ∨ s.oa = 2 → s.ol = []
  on : s.oa ≠ 0 → s.ol = [] → r.out = ⟨none, 0, 0⟩
  c1 : s.oa = 1 → r.tk = 0
  c2 : s.oa = 2 → r.tk = 1 ∧ r.ot = s.ot
  c3 : s.oa = 3 → r.tk = 2 + s.ol.length ∧ r.oh = s.oh
  ol : s.oa ≠ 0 → IntsX w X r.out.v s.ol
section
variable {w w' : World} {X Y : Nat → Prop} {r : RF} {s : RS}
theorem RefIn.map (h : RefIn w X r s) (f : ∀ v l, IntsX w X v l → IntsX w' Y v l) : RefIn w' Y r s :=
  ⟨h.D, h.W, h.H, h.T, fun i hi => f _ _ (h.d i hi), h.pu, h.po, h.a1, h.a2, h.a3, fun e => f _ _ (h.il e), h.az, h.cz, h.on, h.c1, h.c2, h.c3, fun e => f _ _ (h.ol e)⟩
theorem RefIn.go (h : RefIn w X r s) (hb : Below w.heap.size w w') : RefIn w' (newX X w w') r s := h.map fun _ _ k => k.go hb
theorem RefIn.kept (h : RefIn w X r s) (hk : Kept X w w') : RefIn w' X r s := h.map fun _ _ k => k.keep hk
end
end Go.Proofs.YtelfclcljdjohaaDoor
