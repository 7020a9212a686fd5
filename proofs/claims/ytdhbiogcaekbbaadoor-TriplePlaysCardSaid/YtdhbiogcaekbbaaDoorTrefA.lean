/- The reference's register: its value. -/
import Derived.Test.YtdhbiogcaekbbaaDoorTripleM
import Derived.Test.YtdhbiogcaekbbaaDoorApp
namespace Go.Proofs.YtdhbiogcaekbbaaDoor
open Go.RowKit

/-- A slice: where, how long, with what room. -/
structure Sl where
  A : Option Addr
  n : Nat
  c : Nat
def Sl.v (s : Sl) : Value := .slice s.A s.n s.c
def nil0 : Sl := ⟨none, 0, 0⟩
structure RF where
  W : Int
  Mi : Int
  d0 : Sl
  d1 : Sl
  d2 : Sl
  Ba : Int
  Fr : Int
  wr : Bool
  rd : Bool
  ma : Int
  ak : Bool
  fs : Bool
  inn : Sl
  out : Sl
def RF.cells (r : RF) : Array Value := #[.int .i64 r.W, .int .i64 r.Mi, r.d0.v, r.d1.v, r.d2.v, .int .i64 r.Ba, .int .i64 r.Fr, .bool r.wr, .bool r.rd, .int .i64 r.ma, .bool r.ak, .bool r.fs, r.inn.v, r.out.v]
def RF.v (r : RF) : Value := .agg r.cells
theorem RF.ones (r : RF) : r.cells.all (·.oneCell') = true := by simp [RF.cells, Sl.v, Value.oneCell']
def zero14 : Array Value := #[.int .i64 0, .int .i64 0, .slice none 0 0, .slice none 0 0, .slice none 0 0, .int .i64 0, .int .i64 0, .bool false, .bool false, .int .i64 0, .bool false, .bool false, .slice none 0 0, .slice none 0 0]
def RF.d (r : RF) : Nat → Sl
  | 0 => r.d0
  | 1 => r.d1
  | _ => r.d2
def RF.setd (r : RF) (s : Sl) : Nat → RF
  | 0 => { r with d0 := s }
  | 1 => { r with d1 := s }
  | _ => { r with d2 := s }
theorem RF.cd (r : RF) (i : Nat) (h : i < 3) : r.cells[2 + i]? = some (r.d i).v := by
  match i, h with
  | 0, _ => rfl
  | 1, _ => rfl
  | 2, _ => rfl
theorem RF.cset (r : RF) (s : Sl) (i : Nat) (h : i < 3) : r.cells.setIfInBounds (2 + i) s.v = (r.setd s i).cells := by
  match i, h with
  | 0, _ => rfl
  | 1, _ => rfl
  | 2, _ => rfl
theorem RF.dset (r : RF) (s : Sl) (i j : Nat) (h : i < 3) (hj : j < 3) : (r.setd s i).d j = if j = i then s else r.d j := by
  match i, h with
  | 0, _ =>
    match j, hj with
    | 0, _ => rfl
    | 1, _ => rfl
    | 2, _ => rfl
  | 1, _ =>
    match j, hj with
    | 0, _ => rfl
    | 1, _ => rfl
    | 2, _ => rfl
  | 2, _ =>
    match j, hj with
    | 0, _ => rfl
    | 1, _ => rfl
    | 2, _ => rfl
theorem rinfo : (Tryd.prog.info? 50).map (·.size) = some 14 := by kernel_rfl
/-- The words of a message. -/
def TS.row (s : TS) (i : Nat) : List Int := (s.mem.drop (1 + i * s.W)).take s.W
theorem row_at (s : TS) (i j : Nat) (hj : j < s.W) : (s.row i)[j]? = s.mem[1 + i * s.W + j]? := by
  unfold TS.row
  rw [List.getElem?_take, if_pos hj, List.getElem?_drop]
theorem row_in {s : TS} (h : s.ok) (i : Nat) (hi : i < 3) : 1 + i * s.W + s.W ≤ s.mem.length := by
  have := h.len
  have := Nat.mul_le_mul_right s.W (show i + 1 ≤ 3 from hi)
  rw [Nat.add_mul] at this
  omega
theorem row_len {s : TS} (h : s.ok) (i : Nat) (hi : i < 3) : (s.row i).length = s.W := by
  have := row_in h i hi
  unfold TS.row
  rw [List.length_take, List.length_drop]
  omega
theorem row_same {s s' : TS} (hW : s'.W = s.W) (i : Nat) (h : ∀ j, j < s.W → s'.mem[1 + i * s.W + j]? = s.mem[1 + i * s.W + j]?) : s'.row i = s.row i := by
  apply List.ext_getElem?
  intro j
  by_cases hj : j < s.W
  · rw [row_at _ _ _ (by rw [hW]; exact hj), row_at _ _ _ hj, hW]
    exact h j hj
  · unfold TS.row
    rw [hW, List.getElem?_take, List.getElem?_take, if_neg hj, if_neg hj]
theorem row_put {s s' : TS} (h : s.ok) (hW : s'.W = s.W) (i k : Nat) (v : Int) (hi : i < 3) (hk : k < s.W) (hm : s'.mem = s.mem.set (1 + i * s.W + k) v) : s'.row i = (s.row i).set k v := by
  have hin := row_in h i hi
  have hl := row_len h i hi
  apply List.ext_getElem?
  intro j
  by_cases hj : j < s.W
  · rw [row_at _ _ _ (by rw [hW]; exact hj), hW, hm]
    by_cases e : j = k
    · subst e
      rw [List.getElem?_set_self (by omega), List.getElem?_set_self (by omega)]
    · rw [List.getElem?_set_ne (by omega), List.getElem?_set_ne (by omega), row_at _ _ _ hj]
  · unfold TS.row
    rw [hW, List.getElem?_take, if_neg hj, List.getElem?_set_ne (by omega), List.getElem?_take, if_neg hj]
theorem slot_ne' {W a b j k : Nat} (hj : j < W) (hk : k < W) (h : a ≠ b) : 1 + a * W + j ≠ 1 + b * W + k := by
  rcases Nat.lt_or_ge a b with h' | h'
  · have := Nat.mul_le_mul_right W (show a + 1 ≤ b from h')
    rw [Nat.add_mul] at this
    omega
  · have := Nat.mul_le_mul_right W (show b + 1 ≤ a by omega)
    rw [Nat.add_mul] at this
    omega
theorem mid_off {s s' : TS} (m : Nat) (v : Int) (hm : s'.mem = s.mem.set m v) (h0 : m ≠ 0) : s'.mid = s.mid := by
  unfold TS.mid
  rw [hm, List.getElem?_set_ne h0]
theorem mid_at0 {s s' : TS} (h : s.ok) (v : Nat) (hm : s'.mem = s.mem.set 0 (v : Int)) : s'.mid = v := by
  have := h.len
  unfold TS.mid
  rw [hm, List.getElem?_set_self (by omega)]
  rfl
/-- The reference's register is the state s. -/
structure RefIn (w : World) (X : Nat → Prop) (r : RF) (s : TS) : Prop where
  W : r.W = s.W
  Mi : r.Mi = s.mid
  d : ∀ i, i < 3 → IntsX w X (r.d i).v (s.row i)
  Ba : r.Ba = s.io
  Fr : r.Fr = s.oo
  wr : r.wr = s.busy true
  rd : r.rd = s.busy false
  ma : s.ia ≠ 0 → r.ma = s.inn
  il : s.ia ≠ 0 → IntsX w X r.inn.v s.il
  ak : s.oa ≠ 0 → r.ak = !decide (s.oa = 1)
  fs : s.oa ≠ 0 → r.fs = decide (s.oa = 2)
  on : s.oa ≠ 0 → s.ol = [] → r.out = nil0
  ol : s.oa ≠ 0 → IntsX w X r.out.v s.ol
section
variable {w w' : World} {X Y : Nat → Prop} {r : RF} {s : TS}
theorem RefIn.map (h : RefIn w X r s) (f : ∀ v l, IntsX w X v l → IntsX w' Y v l) : RefIn w' Y r s :=
  ⟨h.W, h.Mi, fun i hi => f _ _ (h.d i hi), h.Ba, h.Fr, h.wr, h.rd, h.ma, fun e => f _ _ (h.il e), h.ak, h.fs, h.on, fun e => f _ _ (h.ol e)⟩
theorem RefIn.go (h : RefIn w X r s) (hb : Below w.heap.size w w') : RefIn w' (newX X w w') r s := h.map fun _ _ k => k.go hb
theorem refin_write (h : RefIn w X r s) (l : List Int) (sl : Sl) (hs : IntsX w X sl.v l) : RefIn w X { r with wr := true, ma := 0, inn := sl } (s.wrt l) :=
  ⟨h.W, h.Mi, h.d, h.Ba, h.Fr, rfl, h.rd, fun _ => rfl, fun _ => hs, h.ak, h.fs, h.on, h.ol⟩
theorem refin_read (h : RefIn w X r s) : RefIn w X { r with rd := true, ak := false, fs := false, out := nil0 } { s with oa := 1, ol := [] } :=
  ⟨h.W, h.Mi, h.d, h.Ba, h.Fr, h.wr, rfl, h.ma, h.il, fun _ => rfl, fun _ => rfl, fun _ _ => rfl, fun _ => IntsX.nil _ _⟩
theorem refin_dropW (h : RefIn w X r s) : RefIn w X { r with wr := false } { s with ia := 0 } :=
  ⟨h.W, h.Mi, h.d, h.Ba, h.Fr, rfl, h.rd, fun e => absurd rfl e, fun e => absurd rfl e, h.ak, h.fs, h.on, h.ol⟩
theorem refin_dropR (h : RefIn w X r s) : RefIn w X { r with rd := false } { s with oa := 0 } :=
  ⟨h.W, h.Mi, h.d, h.Ba, h.Fr, h.wr, rfl, h.ma, h.il, fun e => absurd rfl e, fun e => absurd rfl e, fun e => absurd rfl e, fun e => absurd rfl e⟩
theorem refin_put (h : RefIn w X r s) (hk : s.ok) (hn : s.inn < s.W) (v : Int) (sl : Sl) (hs : IntsX w X sl.v ((s.row s.io).set s.inn v)) (m : Int) (hm : m = s.inn + 1) :
    RefIn w X { r.setd sl s.io with ma := m } { s with mem := s.mem.set (1 + s.io * s.W + s.inn) v, inn := s.inn + 1 } := by
  have hio := hk.io
  have e : ∀ i, i < 3 → ∃ r' : RF, r' = ({ r.setd sl i with ma := m } : RF) ∧ r'.W = r.W ∧ r'.Mi = r.Mi ∧ r'.Ba = r.Ba ∧ r'.Fr = r.Fr ∧ r'.wr = r.wr ∧ r'.rd = r.rd ∧ r'.ma = m ∧ r'.ak = r.ak ∧ r'.fs = r.fs ∧ r'.inn = r.inn ∧ r'.out = r.out ∧ ∀ j, r'.d j = (r.setd sl i).d j := fun i hi => by
    match i, hi with
    | 0, _ => exact ⟨_, rfl, rfl, rfl, rfl, rfl, rfl, rfl, rfl, rfl, rfl, rfl, rfl, fun _ => rfl⟩
    | 1, _ => exact ⟨_, rfl, rfl, rfl, rfl, rfl, rfl, rfl, rfl, rfl, rfl, rfl, rfl, fun _ => rfl⟩
    | 2, _ => exact ⟨_, rfl, rfl, rfl, rfl, rfl, rfl, rfl, rfl, rfl, rfl, rfl, rfl, fun _ => rfl⟩
  obtain ⟨r', he, e1, e2, e3, e4, e5, e6, e7, e8, e9, e10, e11, e12⟩ := e s.io (by omega)
  rw [← he]
  clear he
  have g1 : ({ s with mem := s.mem.set (1 + s.io * s.W + s.inn) v, inn := s.inn + 1 } : TS).mid = s.mid := mid_off _ _ rfl (by omega)
  refine ⟨e1.trans h.W, e2.trans (by rw [g1]; exact h.Mi), fun i hi => ?_, e3.trans h.Ba, e4.trans h.Fr, e5.trans h.wr, e6.trans h.rd, fun _ => by rw [e7, hm]; rfl, fun e => by rw [e10]; exact h.il e, fun e => e8.trans (h.ak e), fun e => e9.trans (h.fs e), fun e z => e11.trans (h.on e z), fun e => by rw [e11]; exact h.ol e⟩
  rw [e12 i, RF.dset r sl s.io i (by omega) hi]
  by_cases e : i = s.io
  · rw [if_pos e, e, row_put hk (s' := { s with mem := s.mem.set (1 + s.io * s.W + s.inn) v, inn := s.inn + 1 }) rfl s.io s.inn v (by omega) hn rfl]
    exact hs
  · rw [if_neg e, row_same (s := s) (s' := { s with mem := s.mem.set (1 + s.io * s.W + s.inn) v, inn := s.inn + 1 }) rfl i (fun j hj => by simp only []; rw [List.getElem?_set_ne (fun e' => slot_ne' hn hj (Ne.symm e) e')])]
    exact h.d i hi
theorem refin_over (h : RefIn w X r s) (hk : s.ok) (m b : Int) (hm : m = ((s.io + 4 : Nat) : Int)) (hb : b = ((s.mid % 4 : Nat) : Int)) :
    RefIn w X { r with Mi := m, Ba := b, wr := false } { s with mem := s.mem.set 0 ((s.io + 4 : Nat) : Int), io := s.mid % 4, ia := 0 } :=
  ⟨h.W, hm.trans (by rw [mid_at0 hk _ rfl]), fun i hi => by rw [row_same (s := s) (s' := { s with mem := s.mem.set 0 ((s.io + 4 : Nat) : Int), io := s.mid % 4, ia := 0 }) rfl i (fun j hj => by simp only []; rw [List.getElem?_set_ne (by omega)])]; exact h.d i hi,
    hb, h.Fr, rfl, h.rd, fun e => absurd rfl e, fun e => absurd rfl e, h.ak, h.fs, h.on, h.ol⟩
theorem refin_ask (h : RefIn w X r s) (hf : s.fine) (h1 : s.oa = 1) (b : Bool) (hb : b = decide (4 ≤ s.mid)) :
    RefIn w X { r with ak := true, fs := b } { s with oa := if 4 ≤ s.mid then 2 else 3 } := by
  have hol := hf.o0 (.inl h1)
  have hon := h.on (by omega) hol
  have hrd : r.rd = true := by rw [h.rd]; simp [TS.busy, h1]
  subst hb
  by_cases e : 4 ≤ s.mid
  · rw [if_pos e]
    exact ⟨h.W, h.Mi, h.d, h.Ba, h.Fr, h.wr, hrd, h.ma, h.il, fun _ => rfl, fun _ => by simp [e], fun _ _ => hon, fun _ => h.ol (by omega)⟩
  · rw [if_neg e]
    exact ⟨h.W, h.Mi, h.d, h.Ba, h.Fr, h.wr, hrd, h.ma, h.il, fun _ => rfl, fun _ => by simp [e], fun _ _ => hon, fun _ => h.ol (by omega)⟩
theorem refin_take (h : RefIn w X r s) (hf : s.fine) (h2 : s.oa = 2) (m b : Int) (hm : m = (s.oo : Int)) (hb : b = ((s.mid % 4 : Nat) : Int)) :
    RefIn w X { r with Mi := m, Fr := b, fs := false } { s with mem := s.mem.set 0 (s.oo : Int), oo := s.mid % 4, oa := 3 } :=
  ⟨h.W, hm.trans (by rw [mid_at0 hf.ok _ rfl]), fun i hi => by rw [row_same (s := s) (s' := { s with mem := s.mem.set 0 (s.oo : Int), oo := s.mid % 4, oa := 3 }) rfl i (fun j hj => by simp only []; rw [List.getElem?_set_ne (by omega)])]; exact h.d i hi,
    h.Ba, hb, h.wr, by rw [show ({ r with Mi := m, Fr := b, fs := false } : RF).rd = r.rd from rfl, h.rd]; simp [TS.busy, h2], h.ma, h.il, fun _ => by rw [show ({ r with Mi := m, Fr := b, fs := false } : RF).ak = r.ak from rfl, h.ak (by omega)]; simp [h2], fun _ => rfl, fun _ _ => h.on (by omega) (hf.o0 (.inr h2)), fun _ => h.ol (by omega)⟩
theorem refin_word (h : RefIn w X r s) (v : Int) (sl : Sl) (hs : IntsX w X sl.v (s.ol ++ [v])) : RefIn w X { r with out := sl } { s with ol := s.ol ++ [v] } :=
  ⟨h.W, h.Mi, h.d, h.Ba, h.Fr, h.wr, h.rd, h.ma, h.il, h.ak, h.fs, fun _ e => by simp at e, fun _ => hs⟩
theorem refin_last (h : RefIn w X r s) (v : Int) (sl : Sl) : RefIn w X { r with out := sl, rd := false } { s with ol := s.ol ++ [v], oa := 0 } :=
  ⟨h.W, h.Mi, h.d, h.Ba, h.Fr, h.wr, rfl, h.ma, h.il, fun e => absurd rfl e, fun e => absurd rfl e, fun e => absurd rfl e, fun e => absurd rfl e⟩
end
end Go.Proofs.YtdhbiogcaekbbaaDoor
