/- The reference's ring and the ring: an access of each leaves them alike, in plain Lean. -/
import Derived.Test.YtelfclcljdjohaaDoorRefA
namespace Go.Proofs.YtelfclcljdjohaaDoor
open Go.RowKit

theorem slot_ne' {W a b j k : Nat} (hj : j < W) (hk : k < W) (h : a ≠ b) : 2 + a * W + j ≠ 2 + b * W + k := by
  rcases Nat.lt_or_ge a b with h' | h'
  · have := Nat.mul_le_mul_right W (show a + 1 ≤ b from h')
    rw [Nat.add_mul] at this
    omega
  · have := Nat.mul_le_mul_right W (show b + 1 ≤ a by omega)
    rw [Nat.add_mul] at this
    omega
section
variable {w : World} {X : Nat → Prop} {r : RF} {s : RS}
theorem refin_w1 (h : RefIn w X r s) (h1 : s.ia = 1) : RefIn w X { r with ma := 1, sh := r.H } { s with ih := s.hd, ia := 2 } :=
  ⟨h.D, h.W, h.H, h.T, h.d, by show r.pu = _; rw [h.pu, h1]; rfl, h.po, fun e => by simp at e, fun _ => ⟨rfl, h.H⟩, fun e => by simp at e, fun _ => h.il (by omega), fun _ => h.az (.inl h1), h.cz, h.on, h.c1, h.c2, h.c3, h.ol⟩
theorem refin_w2a (h : RefIn w X r s) (o : Int) : RefIn w X { r with ma := 2, st := o, pu := false } { s with it := s.tl, ia := 0 } :=
  ⟨h.D, h.W, h.H, h.T, h.d, rfl, h.po, fun e => by simp at e, fun e => by simp at e, fun e => by simp at e, fun e => by simp at e, fun e => by simp at e, h.cz, h.on, h.c1, h.c2, h.c3, h.ol⟩
theorem refin_w2b (h : RefIn w X r s) (h2 : s.ia = 2) (o : Int) (ho : o = s.tl) : RefIn w X { r with ma := 2, st := o } { s with it := s.tl, ia := 3 } :=
  ⟨h.D, h.W, h.H, h.T, h.d, by show r.pu = _; rw [h.pu, h2]; rfl, h.po, fun e => by simp at e, fun e => by simp at e, fun _ => ⟨by show (2 : Int) = 2 + (s.inn : Int); rw [h.az (.inr h2)]; rfl, ho⟩, fun _ => h.il (by omega), fun e => by simp at e, h.cz, h.on, h.c1, h.c2, h.c3, h.ol⟩
theorem refin_w3a (h : RefIn w X r s) (hk : s.ok) (h3 : s.ia = 3) (hn : s.inn < s.W) (v : Int) (sl : Sl) (hs : IntsX w X sl.v ((s.row (s.it % s.P)).set s.inn v)) :
    RefIn w X (({ r with ma := 2 + (s.inn : Int) + 1 } : RF).setd sl (s.it % s.P)) { s with mem := s.mem.set (2 + s.it % s.P * s.W + s.inn) v, inn := s.inn + 1 } := by
  have hp : s.it % s.P < s.P := Nat.mod_lt _ (by have := hk.p1; omega)
  have hp8 := hk.p8
  have e : ∀ i, i < 8 → ∃ r' : RF, r' = ({ r with ma := 2 + (s.inn : Int) + 1 } : RF).setd sl i ∧ r'.D = r.D ∧ r'.W = r.W ∧ r'.H = r.H ∧ r'.T = r.T ∧ r'.pu = r.pu ∧ r'.po = r.po ∧ r'.ma = 2 + (s.inn : Int) + 1 ∧ r'.tk = r.tk ∧ r'.sh = r.sh ∧ r'.st = r.st ∧ r'.oh = r.oh ∧ r'.ot = r.ot ∧ r'.inn = r.inn ∧ r'.out = r.out := fun i hi => by
    match i, hi with
    | 0, _ => exact ⟨_, rfl, rfl, rfl, rfl, rfl, rfl, rfl, rfl, rfl, rfl, rfl, rfl, rfl, rfl, rfl⟩
    | 1, _ => exact ⟨_, rfl, rfl, rfl, rfl, rfl, rfl, rfl, rfl, rfl, rfl, rfl, rfl, rfl, rfl, rfl⟩
    | 2, _ => exact ⟨_, rfl, rfl, rfl, rfl, rfl, rfl, rfl, rfl, rfl, rfl, rfl, rfl, rfl, rfl, rfl⟩
    | 3, _ => exact ⟨_, rfl, rfl, rfl, rfl, rfl, rfl, rfl, rfl, rfl, rfl, rfl, rfl, rfl, rfl, rfl⟩
    | 4, _ => exact ⟨_, rfl, rfl, rfl, rfl, rfl, rfl, rfl, rfl, rfl, rfl, rfl, rfl, rfl, rfl, rfl⟩
    | 5, _ => exact ⟨_, rfl, rfl, rfl, rfl, rfl, rfl, rfl, rfl, rfl, rfl, rfl, rfl, rfl, rfl, rfl⟩
    | 6, _ => exact ⟨_, rfl, rfl, rfl, rfl, rfl, rfl, rfl, rfl, rfl, rfl, rfl, rfl, rfl, rfl, rfl⟩
    | 7, _ => exact ⟨_, rfl, rfl, rfl, rfl, rfl, rfl, rfl, rfl, rfl, rfl, rfl, rfl, rfl, rfl, rfl⟩
  have hds := fun j hj => RF.dset ({ r with ma := 2 + (s.inn : Int) + 1 } : RF) sl (s.it % s.P) j (by omega) hj
  obtain ⟨r', he, e1, e2, e3, e4, e5, e6, e7, e8, e9, e10, e11, e12, e13, e14⟩ := e (s.it % s.P) (by omega)
  rw [← he] at hds ⊢
  clear he
  generalize s.it % s.P = q at *
  have g1 : ({ s with mem := s.mem.set (2 + q * s.W + s.inn) v, inn := s.inn + 1 } : RS).hd = s.hd := hd_set hk _ _ _ rfl (by omega)
  have g2 : ({ s with mem := s.mem.set (2 + q * s.W + s.inn) v, inn := s.inn + 1 } : RS).tl = s.tl := tl_set hk _ _ _ rfl (by omega)
  refine ⟨e1.trans h.D, e2.trans h.W, e3.trans (by rw [g1]; exact h.H), e4.trans (by rw [g2]; exact h.T), fun i hi => ?_, e5.trans h.pu, e6.trans h.po, fun e => by simp only [] at e; omega, fun e => by simp only [] at e; omega, fun _ => ⟨by rw [e7]; simp; omega, e10.trans (h.a3 h3).2⟩, fun _ => by rw [e13]; exact h.il (by omega), fun e => by simp only [] at e; omega, h.cz, fun e e' => by rw [e14]; exact h.on e e', fun e => e8.trans (h.c1 e), fun e => ⟨e8.trans (h.c2 e).1, e12.trans (h.c2 e).2⟩, fun e => ⟨e8.trans (h.c3 e).1, e11.trans (h.c3 e).2⟩, fun e => by rw [e14]; exact h.ol e⟩
  rw [hds i (by simp only [] at hi; omega)]
  by_cases e : i = q
  · subst e
    rw [if_pos rfl, row_put hk (s' := { s with mem := s.mem.set (2 + i * s.W + s.inn) v, inn := s.inn + 1 }) rfl i s.inn v hi hn rfl]
    exact hs
  · rw [if_neg e, row_same (s := s) (s' := { s with mem := s.mem.set (2 + q * s.W + s.inn) v, inn := s.inn + 1 }) rfl i (fun j hj => by simp only []; rw [List.getElem?_set_ne (fun e' => slot_ne' hn hj (Ne.symm e) e')])]
    have e' : ({ r with ma := 2 + (s.inn : Int) + 1 } : RF).d i = r.d i := by
      match i with
      | 0 | 1 | 2 | 3 | 4 | 5 | 6 | _ + 7 => rfl
    rw [e']
    exact h.d i hi
theorem refin_w3b (h : RefIn w X r s) (hk : s.ok) (m : Int) : RefIn w X { r with ma := m, T := ((nextOf s.P s.it : Nat) : Int), pu := false } { s with mem := s.mem.set 1 ((nextOf s.P s.it : Nat) : Int), ia := 0 } := by
  have g1 : ({ s with mem := s.mem.set 1 ((nextOf s.P s.it : Nat) : Int), ia := 0 } : RS).hd = s.hd := hd_set hk _ _ _ rfl (by omega)
  have g2 : ({ s with mem := s.mem.set 1 ((nextOf s.P s.it : Nat) : Int), ia := 0 } : RS).tl = nextOf s.P s.it := tl_set1 hk _ _ rfl
  exact ⟨h.D, h.W, by rw [g1]; exact h.H, by rw [g2], fun i hi => by rw [row_same (s := s) (s' := { s with mem := s.mem.set 1 ((nextOf s.P s.it : Nat) : Int), ia := 0 }) rfl i (fun j hj => by simp only []; rw [List.getElem?_set_ne (by omega)])]; exact h.d i hi, rfl, h.po, fun e => by simp at e, fun e => by simp at e, fun e => by simp at e, fun e => by simp at e, fun e => by simp at e, h.cz, h.on, h.c1, h.c2, h.c3, h.ol⟩
theorem refin_r1 (h : RefIn w X r s) (h1 : s.oa = 1) : RefIn w X { r with tk := 1, ot := r.T } { s with ot := s.tl, oa := 2 } :=
  ⟨h.D, h.W, h.H, h.T, h.d, h.pu, by show r.po = _; rw [h.po, h1]; rfl, h.a1, h.a2, h.a3, h.il, h.az, fun _ => h.cz (.inl h1), fun _ => h.on (by omega), fun e => by simp at e, fun _ => ⟨rfl, h.T⟩, fun e => by simp at e, fun _ => h.ol (by omega)⟩
theorem refin_r2a (h : RefIn w X r s) (o : Int) : RefIn w X { r with tk := 2, oh := o, po := false } { s with oh := s.hd, oa := 0 } :=
  ⟨h.D, h.W, h.H, h.T, h.d, h.pu, rfl, h.a1, h.a2, h.a3, h.il, h.az, fun e => by simp at e, fun e => by simp at e, fun e => by simp at e, fun e => by simp at e, fun e => by simp at e, fun e => by simp at e⟩
theorem refin_r2b (h : RefIn w X r s) (h2 : s.oa = 2) (o : Int) (ho : o = s.hd) : RefIn w X { r with tk := 2, oh := o } { s with oh := s.hd, oa := 3 } :=
  ⟨h.D, h.W, h.H, h.T, h.d, h.pu, by show r.po = _; rw [h.po, h2]; rfl, h.a1, h.a2, h.a3, h.il, h.az, fun e => by simp at e, fun _ => h.on (by omega), fun e => by simp at e, fun e => by simp at e, fun _ => ⟨by show (2 : Int) = 2 + (s.ol.length : Int); rw [h.cz (.inr h2)]; rfl, ho⟩, fun _ => h.ol (by omega)⟩
theorem refin_r3a (h : RefIn w X r s) (h3 : s.oa = 3) (v : Int) (sl : Sl) (hs : IntsX w X sl.v (s.ol ++ [v])) :
    RefIn w X { r with tk := 2 + (s.ol.length : Int) + 1, out := sl } { s with ol := s.ol ++ [v] } :=
  ⟨h.D, h.W, h.H, h.T, h.d, h.pu, h.po, h.a1, h.a2, h.a3, h.il, h.az, fun e => by simp only [] at e; omega, fun _ e => by simp at e, fun e => by simp only [] at e; omega, fun e => by simp only [] at e; omega, fun _ => ⟨by simp; omega, (h.c3 h3).2⟩, fun _ => hs⟩
theorem refin_r3b (h : RefIn w X r s) (hk : s.ok) (m : Int) : RefIn w X { r with tk := m, H := ((nextOf s.P s.oh : Nat) : Int), po := false } { s with mem := s.mem.set 0 ((nextOf s.P s.oh : Nat) : Int), oa := 0 } := by
  have g1 : ({ s with mem := s.mem.set 0 ((nextOf s.P s.oh : Nat) : Int), oa := 0 } : RS).hd = nextOf s.P s.oh := hd_set0 hk _ _ rfl
  have g2 : ({ s with mem := s.mem.set 0 ((nextOf s.P s.oh : Nat) : Int), oa := 0 } : RS).tl = s.tl := tl_set hk _ _ _ rfl (by omega)
  exact ⟨h.D, h.W, by rw [g1], by rw [g2]; exact h.T, fun i hi => by rw [row_same (s := s) (s' := { s with mem := s.mem.set 0 ((nextOf s.P s.oh : Nat) : Int), oa := 0 }) rfl i (fun j hj => by simp only []; rw [List.getElem?_set_ne (by omega)])]; exact h.d i hi, h.pu, rfl, h.a1, h.a2, h.a3, h.il, h.az, fun e => by simp at e, fun e => by simp at e, fun e => by simp at e, fun e => by simp at e, fun e => by simp at e, fun e => by simp at e⟩
theorem refin_pop (h : RefIn w X r s) : RefIn w X { r with po := true, tk := 0, out := ⟨none, 0, 0⟩ } s.popped :=
  ⟨h.D, h.W, h.H, h.T, h.d, h.pu, rfl, h.a1, h.a2, h.a3, h.il, h.az, fun _ => rfl, fun _ _ => rfl, fun _ => rfl, fun e => by simp [RS.popped] at e, fun e => by simp [RS.popped] at e, fun _ => IntsX.nil w X⟩
theorem refin_push (h : RefIn w X r s) (l : List Int) (sl : Sl) (hs : IntsX w X sl.v l) : RefIn w X { r with pu := true, ma := 0, inn := sl } (s.pushed l) :=
  ⟨h.D, h.W, h.H, h.T, h.d, rfl, h.po, fun _ => rfl, fun e => by simp [RS.pushed] at e, fun e => by simp [RS.pushed] at e, fun _ => hs, fun _ => rfl, h.cz, h.on, h.c1, h.c2, h.c3, h.ol⟩
theorem refin_drop (h : RefIn w X r s) (b : Bool) : RefIn w X (if b then { r with pu := false } else { r with po := false }) (s.dropped b) := by
  cases b
  · exact ⟨h.D, h.W, h.H, h.T, h.d, h.pu, rfl, h.a1, h.a2, h.a3, h.il, h.az, fun e => by simp [RS.dropped] at e, fun e => by simp [RS.dropped] at e, fun e => by simp [RS.dropped] at e, fun e => by simp [RS.dropped] at e, fun e => by simp [RS.dropped] at e, fun e => by simp [RS.dropped] at e⟩
  · exact ⟨h.D, h.W, h.H, h.T, h.d, rfl, h.po, fun e => by simp [RS.dropped] at e, fun e => by simp [RS.dropped] at e, fun e => by simp [RS.dropped] at e, fun e => by simp [RS.dropped] at e, fun e => by simp [RS.dropped] at e, h.cz, h.on, h.c1, h.c2, h.c3, h.ol⟩
end
end Go.Proofs.YtelfclcljdjohaaDoor
