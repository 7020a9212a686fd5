/- A sampling port in plain Lean. -/
import Derived.Test.YtmcelldklmjlkaaDoorFourJ
namespace Go.Proofs.YtmcelldklmjlkaaDoor
open Go.RowKit

/-- A port: words, refresh period, number, register. -/
structure SP where
  n : Nat
  f : Int
  q : Int
  s : FS
def cut (n : Int) : Int := min (max n 0) 4611686018427387904
def ageI (now st : Int) : Int := cut (cut now - cut st)
/-- A value. -/
structure SV where
  l : List Int
  q : Int
  t : Int
  h : Bool
  v : Bool
def SV.none : SV := ⟨[], 0, 0, false, false⟩
def valOf (f : Int) (l : List Int) (now : Int) : SV :=
  if l.length ≤ 2 ∨ l[0]?.getD 0 = 0 then SV.none else ⟨l.drop 2, l[0]?.getD 0, l[1]?.getD 0, true, decide (ageI now (l[1]?.getD 0) ≤ f)⟩
def SP.nx (p : SP) : Int := p.q % 2147483647 + 1
def SP.mes (p : SP) (l : List Int) (now : Int) : List Int := p.nx :: min (cut now) 2147483647 :: l
def SP.wr (p : SP) (l : List Int) (now : Int) : SP × Int :=
  if l.length = p.n then ({ p with q := if (p.s.wr (p.mes l now)).2 = 0 then p.nx else p.q, s := (p.s.wr (p.mes l now)).1 }, (p.s.wr (p.mes l now)).2) else (p, 3)
def SP.rd (p : SP) : SP × Int := ({ p with s := p.s.rd.1 }, p.s.rd.2)
def SP.stp (p : SP) (x : Bool) : SP := { p with s := (p.s.step x).1 }
def SP.val (p : SP) (x : Bool) (now : Int) : SV := if (p.s.step x).2.2.1 = true ∧ x = false then valOf p.f (p.s.step x).2.1 now else SV.none
def SP.drp (p : SP) (x : Bool) : SP := { p with s := p.s.drop x }
structure SP.ok (p : SP) : Prop where
  n1 : 1 ≤ p.n
  n4 : p.n ≤ 4
  W : p.s.W = p.n + 2
  q0 : 0 ≤ p.q
  q1 : p.q ≤ 2147483647
def pwords (n : Int) : Nat := (min (max n 1) 4).toNat
theorem pwords_bd (n : Int) : 1 ≤ pwords n ∧ pwords n ≤ 4 := by unfold pwords; omega
def SP.new (n : Nat) (f : Int) : SP := ⟨n, f, 0, FS.new (n + 2)⟩
theorem sok_new (n : Nat) (f : Int) (h1 : 1 ≤ n) (h4 : n ≤ 4) : (SP.new n f).ok := ⟨h1, h4, rfl, Int.le_refl _, by simp [SP.new]⟩
theorem wr_W (s : FS) (l : List Int) : (s.wr l).1.W = s.W := by
  unfold FS.wr
  repeat' split
  all_goals rfl
theorem step_W (s : FS) (x : Bool) : (s.step x).1.W = s.W := by
  cases x
  · show s.stepR.1.W = s.W
    unfold FS.stepR
    split
    · rfl
    · show s.accR.W = s.W
      unfold FS.accR
      repeat' split
      all_goals rfl
  · show s.stepW.1.W = s.W
    unfold FS.stepW
    split
    · rfl
    · show s.accW.W = s.W
      unfold FS.accW
      repeat' split
      all_goals rfl
theorem rd_W (s : FS) : s.rd.1.W = s.W := by unfold FS.rd; split <;> rfl
theorem drop_W (s : FS) (x : Bool) : (s.drop x).W = s.W := by cases x <;> rfl
theorem nx_bd {p : SP} (h : p.ok) : 1 ≤ p.nx ∧ p.nx ≤ 2147483647 := by
  have := h.q0
  unfold SP.nx
  omega
theorem sok_wr {p : SP} (h : p.ok) (l : List Int) (now : Int) : (p.wr l now).1.ok := by
  unfold SP.wr
  have hb := nx_bd h
  split
  · refine ⟨h.n1, h.n4, (wr_W _ _).trans h.W, ?_, ?_⟩ <;> simp only <;> split <;> first | omega | exact h.q0 | exact h.q1
  · exact h
theorem sok_rd {p : SP} (h : p.ok) : p.rd.1.ok := ⟨h.n1, h.n4, (rd_W _).trans h.W, h.q0, h.q1⟩
theorem sok_stp {p : SP} (h : p.ok) (x : Bool) : (p.stp x).ok := ⟨h.n1, h.n4, (step_W _ _).trans h.W, h.q0, h.q1⟩
theorem sok_drp {p : SP} (h : p.ok) (x : Bool) : (p.drp x).ok := ⟨h.n1, h.n4, (drop_W _ _).trans h.W, h.q0, h.q1⟩
/-- All accesses of one side at a tick: at most k. -/
def SP.all (p : SP) (x : Bool) (now : Int) : Nat → SP × SV × Bool
  | 0 => (p, SV.none, false)
  | k + 1 => if (p.s.step x).2.2.1 = true ∨ (p.s.step x).2.2.2 ≠ 0 then (p.stp x, p.val x now, (p.s.step x).2.2.1) else (p.stp x).all x now k
theorem sok_all {p : SP} (h : p.ok) (x : Bool) (now : Int) (k : Nat) : (p.all x now k).1.ok := by
  induction k generalizing p with
  | zero => exact h
  | succ k ih =>
    unfold SP.all
    split
    · exact sok_stp h x
    · exact ih (sok_stp h x)
end Go.Proofs.YtmcelldklmjlkaaDoor
