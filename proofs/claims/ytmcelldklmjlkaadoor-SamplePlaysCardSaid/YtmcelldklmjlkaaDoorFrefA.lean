/- The reference's register: its value. -/
import Derived.Test.YtmcelldklmjlkaaDoorSampL
import Derived.Test.YtmcelldklmjlkaaDoorWide
import Derived.Test.YtmcelldklmjlkaaDoorApp
namespace Go.Proofs.YtmcelldklmjlkaaDoor
open Go.RowKit

/-- A slice: where, how long, with what room. -/
structure Sl where
  A : Option Addr
  n : Nat
  c : Nat
def Sl.v (s : Sl) : Value := .slice s.A s.n s.c
def nil0 : Sl := ⟨none, 0, 0⟩
structure RF where
  W : Int
  La : Int
  Re : Int
  s0 : Int
  s1 : Int
  d0 : Sl
  d1 : Sl
  d2 : Sl
  d3 : Sl
  wr : Bool
  rd : Bool
  ma : Int
  se : Int
  pa : Int
  own : Int
  pl : Int
  az : Int
  inn : Sl
  out : Sl
def RF.cells (r : RF) : Array Value := #[.int .i64 r.W, .int .i64 r.La, .int .i64 r.Re, .int .i64 r.s0, .int .i64 r.s1, r.d0.v, r.d1.v, r.d2.v, r.d3.v, .bool r.wr, .bool r.rd, .int .i64 r.ma, .int .i64 r.se, .int .i64 r.pa, .int .i64 r.own, .int .i64 r.pl, .int .i64 r.az, r.inn.v, r.out.v]
def RF.v (r : RF) : Value := .agg r.cells
theorem RF.ones (r : RF) : r.cells.all (·.oneCell') = true := by simp [RF.cells, Sl.v, Value.oneCell']
def zero19 : Array Value := #[.int .i64 0, .int .i64 0, .int .i64 0, .int .i64 0, .int .i64 0, .slice none 0 0, .slice none 0 0, .slice none 0 0, .slice none 0 0, .bool false, .bool false, .int .i64 0, .int .i64 0, .int .i64 0, .int .i64 0, .int .i64 0, .int .i64 0, .slice none 0 0, .slice none 0 0]
def RF.d (r : RF) : Nat → Sl
  | 0 => r.d0
  | 1 => r.d1
  | 2 => r.d2
  | _ => r.d3
def RF.setd (r : RF) (s : Sl) : Nat → RF
  | 0 => { r with d0 := s }
  | 1 => { r with d1 := s }
  | 2 => { r with d2 := s }
  | _ => { r with d3 := s }
def RF.s (r : RF) : Nat → Int
  | 0 => r.s0
  | _ => r.s1
def RF.sets (r : RF) (v : Int) : Nat → RF
  | 0 => { r with s0 := v }
  | _ => { r with s1 := v }
theorem RF.cd (r : RF) (i : Nat) (h : i < 4) : r.cells[5 + i]? = some (r.d i).v := by
  match i, h with
  | 0, _ => rfl
  | 1, _ => rfl
  | 2, _ => rfl
  | 3, _ => rfl
theorem RF.cset (r : RF) (s : Sl) (i : Nat) (h : i < 4) : r.cells.setIfInBounds (5 + i) s.v = (r.setd s i).cells := by
  match i, h with
  | 0, _ => rfl
  | 1, _ => rfl
  | 2, _ => rfl
  | 3, _ => rfl
theorem RF.cs (r : RF) (i : Nat) (h : i < 2) : r.cells[3 + i]? = some (.int .i64 (r.s i)) := by
  match i, h with
  | 0, _ => rfl
  | 1, _ => rfl
theorem RF.csets (r : RF) (v : Int) (i : Nat) (h : i < 2) : r.cells.setIfInBounds (3 + i) (.int .i64 v) = (r.sets v i).cells := by
  match i, h with
  | 0, _ => rfl
  | 1, _ => rfl
theorem RF.dset (r : RF) (s : Sl) (i j : Nat) (h : i < 4) (hj : j < 4) : (r.setd s i).d j = if j = i then s else r.d j := by
  rcases (show i = 0 ∨ i = 1 ∨ i = 2 ∨ i = 3 by omega) with rfl | rfl | rfl | rfl <;> rcases (show j = 0 ∨ j = 1 ∨ j = 2 ∨ j = 3 by omega) with rfl | rfl | rfl | rfl <;> rfl
theorem RF.sset (r : RF) (v : Int) (i j : Nat) (h : i < 2) (hj : j < 2) : (r.sets v i).s j = if j = i then v else r.s j := by
  rcases (show i = 0 ∨ i = 1 by omega) with rfl | rfl <;> rcases (show j = 0 ∨ j = 1 by omega) with rfl | rfl <;> rfl
theorem rinfo : (Tryd.prog.info? 46).map (·.size) = some 19 := by kernel_rfl
/-- The words of a message. -/
def FS.row (s : FS) (i : Nat) : List Int := (s.mem.drop (4 + i * s.W)).take s.W
theorem row_at (s : FS) (i j : Nat) (hj : j < s.W) : (s.row i)[j]? = s.mem[4 + i * s.W + j]? := by
  unfold FS.row
  rw [List.getElem?_take, if_pos hj, List.getElem?_drop]
theorem row_in {s : FS} (h : s.ok) (i : Nat) (hi : i < 4) : 4 + i * s.W + s.W ≤ s.mem.length := by
  have := h.len
  have := Nat.mul_le_mul_right s.W (show i + 1 ≤ 4 from hi)
  rw [Nat.add_mul] at this
  omega
theorem row_len {s : FS} (h : s.ok) (i : Nat) (hi : i < 4) : (s.row i).length = s.W := by
  have := row_in h i hi
  unfold FS.row
  rw [List.length_take, List.length_drop]
  omega
theorem row_same {s s' : FS} (hW : s'.W = s.W) (i : Nat) (h : ∀ j, j < s.W → s'.mem[4 + i * s.W + j]? = s.mem[4 + i * s.W + j]?) : s'.row i = s.row i := by
  apply List.ext_getElem?
  intro j
  by_cases hj : j < s.W
  · rw [row_at _ _ _ (by rw [hW]; exact hj), row_at _ _ _ hj, hW]
    exact h j hj
  · unfold FS.row
    rw [hW, List.getElem?_take, List.getElem?_take, if_neg hj, if_neg hj]
theorem row_put {s s' : FS} (h : s.ok) (hW : s'.W = s.W) (i k : Nat) (v : Int) (hi : i < 4) (hk : k < s.W) (hm : s'.mem = s.mem.set (4 + i * s.W + k) v) : s'.row i = (s.row i).set k v := by
  have hin := row_in h i hi
  have hl := row_len h i hi
  apply List.ext_getElem?
  intro j
  by_cases hj : j < s.W
  · rw [row_at _ _ _ (by rw [hW]; exact hj), hW, hm]
    by_cases e : j = k
    · subst e
      rw [List.getElem?_set_self (by omega), List.getElem?_set_self (by omega)]
    · rw [List.getElem?_set_ne (by omega), List.getElem?_set_ne (by omega), row_at _ _ _ hj]
  · unfold FS.row
    rw [hW, List.getElem?_take, if_neg hj, List.getElem?_set_ne (by omega), List.getElem?_take, if_neg hj]
theorem row_low {s s' : FS} (hW : s'.W = s.W) (i m : Nat) (v : Int) (hm : s'.mem = s.mem.set m v) (h4 : m < 4) : s'.row i = s.row i :=
  row_same hW i fun j _ => by rw [hm, List.getElem?_set_ne (by omega)]
/-- The reference's register is the state s. -/
structure RefIn (w : World) (X : Nat → Prop) (r : RF) (s : FS) : Prop where
  W : r.W = s.W
  La : r.La = s.g 0
  Re : r.Re = s.g 1
  sl : ∀ p, p < 2 → r.s p = s.g (2 + p)
  d : ∀ i, i < 4 → IntsX w X (r.d i).v (s.row i)
  wr : r.wr = decide (s.iw ≠ 0)
  rd : r.rd = decide (s.ow ≠ 0)
  ma : s.iw ≠ 0 → r.ma = (s.W : Int) + 4 - s.iw
  se : s.ow ≠ 0 → r.se = (s.W : Int) + 3 - s.ow
  pa : r.pa = s.ip
  own : r.own = s.op
  pl : r.pl = s.iq
  az : r.az = s.oq
  il : s.iw ≠ 0 → IntsX w X r.inn.v s.il
  on : s.ow ≠ 0 → s.ol = [] → r.out = nil0
  ol : s.ow ≠ 0 → IntsX w X r.out.v s.ol
section
variable {w w' : World} {X Y : Nat → Prop} {r : RF} {s : FS}
theorem RefIn.map (h : RefIn w X r s) (f : ∀ v l, IntsX w X v l → IntsX w' Y v l) : RefIn w' Y r s :=
  ⟨h.W, h.La, h.Re, h.sl, fun i hi => f _ _ (h.d i hi), h.wr, h.rd, h.ma, h.se, h.pa, h.own, h.pl, h.az, fun e => f _ _ (h.il e), h.on, fun e => f _ _ (h.ol e)⟩
theorem RefIn.go (h : RefIn w X r s) (hb : Below w.heap.size w w') : RefIn w' (newX X w w') r s := h.map fun _ _ k => k.go hb
theorem refin_write (h : RefIn w X r s) (l : List Int) (sl : Sl) (hs : IntsX w X sl.v l) : RefIn w X { r with wr := true, ma := 0, inn := sl } (s.wrt l) :=
  ⟨h.W, h.La, h.Re, h.sl, h.d, by simp [FS.wrt], h.rd, fun _ => by simp only [FS.wrt]; omega, h.se, h.pa, h.own, h.pl, h.az, fun _ => hs, h.on, h.ol⟩
theorem refin_read (h : RefIn w X r s) : RefIn w X { r with rd := true, se := 0, out := nil0 } { s with ow := s.W + 3, ol := [] } :=
  ⟨h.W, h.La, h.Re, h.sl, h.d, h.wr, by simp, h.ma, fun _ => by simp only; omega, h.pa, h.own, h.pl, h.az, h.il, fun _ _ => rfl, fun _ => IntsX.nil _ _⟩
theorem refin_dropW (h : RefIn w X r s) : RefIn w X { r with wr := false } { s with iw := 0 } :=
  ⟨h.W, h.La, h.Re, h.sl, h.d, by simp, h.rd, fun e => absurd rfl e, h.se, h.pa, h.own, h.pl, h.az, fun e => absurd rfl e, h.on, h.ol⟩
theorem refin_dropR (h : RefIn w X r s) : RefIn w X { r with rd := false } { s with ow := 0 } :=
  ⟨h.W, h.La, h.Re, h.sl, h.d, h.wr, by simp, h.ma, fun e => absurd rfl e, h.pa, h.own, h.pl, h.az, h.il, fun e => absurd rfl e, fun e => absurd rfl e⟩
theorem RefIn.wrt (h : RefIn w X r s) (h0 : s.iw ≠ 0) : r.wr = true := by rw [h.wr]; simp [h0]
theorem RefIn.rdt (h : RefIn w X r s) (h0 : s.ow ≠ 0) : r.rd = true := by rw [h.rd]; simp [h0]
/-- The writer's accesses. -/
theorem refin_w1 (h : RefIn w X r s) (hk : s.ok) (e : s.iw = s.W + 4) (M P : Int) (hM : M = (s.W : Int) + 5 - s.iw) (hP : P = 1 - (s.g 1 : Int)) :
    RefIn w X { r with ma := M, pa := P } { s with ip := 1 - s.g 1, iw := s.iw - 1 } := by
  have hb := (hk.bit 1 (by omega)).2
  exact ⟨h.W, h.La, h.Re, h.sl, h.d, by rw [show ({ r with ma := M, pa := P } : RF).wr = r.wr from rfl, h.wrt (by omega)]; simp; omega, h.rd, fun _ => by simp only; omega, h.se, by simp only; omega, h.own, h.pl, h.az, fun _ => h.il (by omega), h.on, h.ol⟩
theorem refin_w2 (h : RefIn w X r s) (hk : s.ok) (e : s.iw = s.W + 3) (M P : Int) (hM : M = (s.W : Int) + 5 - s.iw) (hP : P = 1 - (s.g (2 + s.ip) : Int)) :
    RefIn w X { r with ma := M, pl := P } { s with iq := 1 - s.g (2 + s.ip), iw := s.iw - 1 } := by
  have hb := (hk.bit (2 + s.ip) (by have := hk.ip; omega)).2
  exact ⟨h.W, h.La, h.Re, h.sl, h.d, by rw [show ({ r with ma := M, pl := P } : RF).wr = r.wr from rfl, h.wrt (by omega)]; simp; omega, h.rd, fun _ => by simp only; omega, h.se, h.pa, h.own, by simp only; omega, h.az, fun _ => h.il (by omega), h.on, h.ol⟩
theorem refin_w3 (h : RefIn w X r s) (hk : s.ok) (e : 2 < s.iw) (e' : s.iw ≤ s.W + 2) (M v : Int) (hM : M = (s.W : Int) + 5 - s.iw) (sl : Sl) (hs : IntsX w X sl.v ((s.row (2 * s.ip + s.iq)).set (s.W + 2 - s.iw) v)) :
    RefIn w X ({ r with ma := M }.setd sl (2 * s.ip + s.iq)) { s with mem := s.mem.set (s.widx (s.W + 2 - s.iw)) v, iw := s.iw - 1 } := by
  have hip := hk.ip
  have hiq := hk.iq
  have e0 : ∀ i, i < 4 → ∃ r' : RF, r' = ({ r with ma := M } : RF).setd sl i ∧ r'.W = r.W ∧ r'.La = r.La ∧ r'.Re = r.Re ∧ (∀ p, r'.s p = r.s p) ∧ r'.wr = r.wr ∧ r'.rd = r.rd ∧ r'.ma = M ∧ r'.se = r.se ∧ r'.pa = r.pa ∧ r'.own = r.own ∧ r'.pl = r.pl ∧ r'.az = r.az ∧ r'.inn = r.inn ∧ r'.out = r.out ∧ ∀ j, j < 4 → r'.d j = if j = i then sl else r.d j := fun i hi => by
    have hd := fun j (hj : j < 4) => RF.dset ({ r with ma := M } : RF) sl i j hi hj
    have hr : ∀ j, j < 4 → ({ r with ma := M } : RF).d j = r.d j := fun j hj => by
      rcases (show j = 0 ∨ j = 1 ∨ j = 2 ∨ j = 3 by omega) with rfl | rfl | rfl | rfl <;> rfl
    refine ⟨_, rfl, ?_⟩
    have hd' : ∀ j, j < 4 → (({ r with ma := M } : RF).setd sl i).d j = if j = i then sl else r.d j := fun j hj => by rw [hd j hj, hr j hj]
    rcases (show i = 0 ∨ i = 1 ∨ i = 2 ∨ i = 3 by omega) with rfl | rfl | rfl | rfl <;>
      exact ⟨rfl, rfl, rfl, fun p => by match p with | 0 => rfl | _ + 1 => rfl, rfl, rfl, rfl, rfl, rfl, rfl, rfl, rfl, rfl, rfl, hd'⟩
  obtain ⟨r', he, e1, e2, e3, e4, e5, e6, e7, e8, e9, e10, e11, e12, e13, e14, e15⟩ := e0 (2 * s.ip + s.iq) (by omega)
  rw [← he]
  clear he
  have g1 : ∀ i, i < 4 → ({ s with mem := s.mem.set (s.widx (s.W + 2 - s.iw)) v, iw := s.iw - 1 } : FS).g i = s.g i := fun i hi => g_set_off rfl (by unfold FS.widx; omega)
  refine ⟨e1.trans h.W, e2.trans (by rw [g1 0 (by omega)]; exact h.La), e3.trans (by rw [g1 1 (by omega)]; exact h.Re), fun p hp => by rw [e4, g1 _ (by omega)]; exact h.sl p hp, fun i hi => ?_, by rw [e5, h.wrt (by omega)]; simp; omega, e6.trans h.rd, fun _ => by rw [e7]; simp only; omega,
    fun a => e8.trans (h.se a), e9.trans h.pa, e10.trans h.own, e11.trans h.pl, e12.trans h.az, fun _ => by rw [e13]; exact h.il (by omega), fun a z => e14.trans (h.on a z), fun a => by rw [e14]; exact h.ol a⟩
  rw [e15 i hi]
  by_cases e : i = 2 * s.ip + s.iq
  · rw [if_pos e, e, row_put hk (s' := { s with mem := s.mem.set (s.widx (s.W + 2 - s.iw)) v, iw := s.iw - 1 }) rfl (2 * s.ip + s.iq) (s.W + 2 - s.iw) v (by omega) (by omega) rfl]
    exact hs
  · rw [if_neg e, row_same (s := s) (s' := { s with mem := s.mem.set (s.widx (s.W + 2 - s.iw)) v, iw := s.iw - 1 }) rfl i (fun j hj => by simp only [FS.widx]; rw [List.getElem?_set_ne (slot2_ne (by omega) hj (Ne.symm e))])]
    exact h.d i hi
theorem refin_w4 (h : RefIn w X r s) (hk : s.ok) (e : s.iw = 2) (M v : Int) (hM : M = (s.W : Int) + 5 - s.iw) (hv : v = s.iq) :
    RefIn w X ({ r with ma := M }.sets v s.ip) { s with mem := s.mem.set (2 + s.ip) (s.iq : Int), iw := s.iw - 1 } := by
  have hip := hk.ip
  have e0 : ∀ i, i < 2 → ∃ r' : RF, r' = ({ r with ma := M } : RF).sets v i ∧ r'.W = r.W ∧ r'.La = r.La ∧ r'.Re = r.Re ∧ (∀ j, r'.d j = r.d j) ∧ r'.wr = r.wr ∧ r'.rd = r.rd ∧ r'.ma = M ∧ r'.se = r.se ∧ r'.pa = r.pa ∧ r'.own = r.own ∧ r'.pl = r.pl ∧ r'.az = r.az ∧ r'.inn = r.inn ∧ r'.out = r.out ∧ ∀ j, j < 2 → r'.s j = if j = i then v else r.s j := fun i hi => by
    have hr : ∀ j, j < 2 → ({ r with ma := M } : RF).s j = r.s j := fun j hj => by
      rcases (show j = 0 ∨ j = 1 by omega) with rfl | rfl <;> rfl
    have hd' : ∀ j, j < 2 → (({ r with ma := M } : RF).sets v i).s j = if j = i then v else r.s j := fun j hj => by rw [RF.sset _ v i j hi hj, hr j hj]
    refine ⟨_, rfl, ?_⟩
    rcases (show i = 0 ∨ i = 1 by omega) with rfl | rfl <;>
      exact ⟨rfl, rfl, rfl, fun j => by match j with | 0 => rfl | 1 => rfl | 2 => rfl | _ + 3 => rfl, rfl, rfl, rfl, rfl, rfl, rfl, rfl, rfl, rfl, rfl, hd'⟩
  obtain ⟨r', he, e1, e2, e3, e4, e5, e6, e7, e8, e9, e10, e11, e12, e13, e14, e15⟩ := e0 s.ip (by omega)
  rw [← he]
  clear he
  have g1 : ∀ i, i < 4 → i ≠ 2 + s.ip → ({ s with mem := s.mem.set (2 + s.ip) (s.iq : Int), iw := s.iw - 1 } : FS).g i = s.g i := fun i hi hn => g_set_off rfl (Ne.symm hn)
  refine ⟨e1.trans h.W, e2.trans (by rw [g1 0 (by omega) (by omega)]; exact h.La), e3.trans (by rw [g1 1 (by omega) (by omega)]; exact h.Re), fun p hp => ?_, fun i hi => by rw [e4, row_low (s := s) (s' := { s with mem := s.mem.set (2 + s.ip) (s.iq : Int), iw := s.iw - 1 }) rfl i _ _ rfl (by omega)]; exact h.d i hi, by rw [e5, h.wrt (by omega)]; simp; omega, e6.trans h.rd, fun _ => by rw [e7]; simp only; omega,
    fun a => e8.trans (h.se a), e9.trans h.pa, e10.trans h.own, e11.trans h.pl, e12.trans h.az, fun _ => by rw [e13]; exact h.il (by omega), fun a z => e14.trans (h.on a z), fun a => by rw [e14]; exact h.ol a⟩
  rw [e15 p hp]
  by_cases ep : p = s.ip
  · rw [if_pos ep, ep, g_set_at hk rfl (by omega), hv]
  · rw [if_neg ep, g1 _ (by omega) (by omega)]; exact h.sl p hp
theorem refin_w5 (h : RefIn w X r s) (hk : s.ok) (e : s.iw = 1) (M v : Int) (hv : v = s.ip) :
    RefIn w X { r with ma := M, La := v, wr := false } { s with mem := s.mem.set 0 (s.ip : Int), iw := s.iw - 1 } := by
  have g1 : ∀ i, i < 4 → i ≠ 0 → ({ s with mem := s.mem.set 0 (s.ip : Int), iw := s.iw - 1 } : FS).g i = s.g i := fun i hi hn => g_set_off rfl (Ne.symm hn)
  have e1 : s.iw - 1 = 0 := by omega
  exact ⟨h.W, by rw [g_set_at hk rfl (by omega)]; exact hv, by rw [g1 1 (by omega) (by omega)]; exact h.Re, fun p hp => by rw [g1 _ (by omega) (by omega)]; exact h.sl p hp, fun i hi => by rw [row_low (s := s) (s' := { s with mem := s.mem.set 0 (s.ip : Int), iw := s.iw - 1 }) rfl i _ _ rfl (by omega)]; exact h.d i hi, by simp [e1], h.rd, fun a => absurd e1 a, h.se, h.pa, h.own, h.pl, h.az, fun a => absurd e1 a, h.on, h.ol⟩
/-- The reader's accesses. -/
theorem refin_r1 (h : RefIn w X r s) (e : s.ow = s.W + 3) (M P : Int) (hM : M = (s.W : Int) + 4 - s.ow) (hP : P = (s.g 0 : Int)) :
    RefIn w X { r with se := M, own := P } { s with op := s.g 0, ow := s.ow - 1 } :=
  ⟨h.W, h.La, h.Re, h.sl, h.d, h.wr, by rw [show ({ r with se := M, own := P } : RF).rd = r.rd from rfl, h.rdt (by omega)]; simp; omega, h.ma, fun _ => by simp only; omega, h.pa, hP, h.pl, h.az, h.il, fun _ z => h.on (by omega) z, fun _ => h.ol (by omega)⟩
theorem refin_r2 (h : RefIn w X r s) (hk : s.ok) (e : s.ow = s.W + 2) (M P : Int) (hM : M = (s.W : Int) + 4 - s.ow) (hP : P = (s.op : Int)) :
    RefIn w X { r with se := M, Re := P } { s with mem := s.mem.set 1 (s.op : Int), ow := s.ow - 1 } := by
  have g1 : ∀ i, i < 4 → i ≠ 1 → ({ s with mem := s.mem.set 1 (s.op : Int), ow := s.ow - 1 } : FS).g i = s.g i := fun i hi hn => g_set_off rfl (Ne.symm hn)
  exact ⟨h.W, by rw [g1 0 (by omega) (by omega)]; exact h.La, by rw [g_set_at hk rfl (by omega)]; exact hP, fun p hp => by rw [g1 _ (by omega) (by omega)]; exact h.sl p hp, fun i hi => by rw [row_low (s := s) (s' := { s with mem := s.mem.set 1 (s.op : Int), ow := s.ow - 1 }) rfl i _ _ rfl (by omega)]; exact h.d i hi, h.wr,
    by rw [show ({ r with se := M, Re := P } : RF).rd = r.rd from rfl, h.rdt (by omega)]; simp; omega, h.ma, fun _ => by simp only; omega, h.pa, h.own, h.pl, h.az, h.il, fun _ z => h.on (by omega) z, fun _ => h.ol (by omega)⟩
theorem refin_r3 (h : RefIn w X r s) (hk : s.ok) (e : s.ow = s.W + 1) (M P : Int) (hM : M = (s.W : Int) + 4 - s.ow) (hP : P = (s.g (2 + s.op) : Int)) :
    RefIn w X { r with se := M, az := P } { s with oq := s.g (2 + s.op), ow := s.ow - 1 } :=
  ⟨h.W, h.La, h.Re, h.sl, h.d, h.wr, by have := hk.w1; rw [show ({ r with se := M, az := P } : RF).rd = r.rd from rfl, h.rdt (by omega)]; simp; omega, h.ma, fun _ => by simp only; omega, h.pa, h.own, h.pl, hP, h.il, fun _ z => h.on (by omega) z, fun _ => h.ol (by omega)⟩
theorem refin_r4 (h : RefIn w X r s) (e : 1 < s.ow) (M v : Int) (hM : M = (s.W : Int) + 4 - s.ow) (sl : Sl) (hs : IntsX w X sl.v (s.ol ++ [v])) :
    RefIn w X { r with se := M, out := sl } { s with ol := s.ol ++ [v], ow := s.ow - 1 } :=
  ⟨h.W, h.La, h.Re, h.sl, h.d, h.wr, by rw [show ({ r with se := M, out := sl } : RF).rd = r.rd from rfl, h.rdt (by omega)]; simp; omega, h.ma, fun _ => by simp only; omega, h.pa, h.own, h.pl, h.az, h.il, fun _ z => by simp at z, fun _ => hs⟩
theorem refin_r5 (h : RefIn w X r s) (e : s.ow = 1) (M v : Int) (sl : Sl) : RefIn w X { r with se := M, out := sl, rd := false } { s with ol := s.ol ++ [v], ow := s.ow - 1 } := by
  have e1 : s.ow - 1 = 0 := by omega
  exact ⟨h.W, h.La, h.Re, h.sl, h.d, h.wr, by simp [e1], h.ma, fun a => absurd e1 a, h.pa, h.own, h.pl, h.az, h.il, fun a => absurd e1 a, fun a => absurd e1 a⟩
end
end Go.Proofs.YtmcelldklmjlkaaDoor
