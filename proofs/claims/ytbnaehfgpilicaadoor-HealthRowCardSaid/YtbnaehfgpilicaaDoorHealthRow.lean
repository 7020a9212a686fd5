/- HealthRow: a log has the last ones, in their row; those of all partitions together are all. -/
import Derived.Test.YtbnaehfgpilicaaDoorHealthLast
import Derived.Test.YtbnaehfgpilicaaDoorHealthInts
namespace Go.Proofs.YtbnaehfgpilicaaDoor
open Go.RowKit

/-- The events that the law tells. -/
structure RowOK (l : List Ev) (n : Nat) : Prop where
  len : l.length = n
  ok : ∀ e ∈ l, okK e.k
  at_ : ∀ j (h : j < l.length), l[j].t = (j : Int) ∧ l[j].p = ((j % 4 : Nat) : Int)
theorem rowOK_nil : RowOK [] 0 := ⟨rfl, by simp, by simp⟩
theorem rowOK_next {l : List Ev} {n : Nat} (h : RowOK l n) (e : Ev) (hk : okK e.k) (ht : e.t = (n : Int)) (hp : e.p = ((n % 4 : Nat) : Int)) : RowOK (tellL l e) (n + 1) := by
  unfold tellL
  rw [if_pos hk]
  refine ⟨by simp [h.len], fun a ha => ?_, fun j hj => ?_⟩
  · rcases List.mem_append.1 ha with h' | h'
    · exact h.ok a h'
    · rw [List.mem_singleton.1 h']; exact hk
  · rw [List.length_append, List.length_singleton] at hj
    rcases Nat.lt_or_ge j l.length with h' | h'
    · rw [List.getElem_append_left h']; exact h.at_ j h'
    · have hjn : j = n := by have := h.len; omega
      subst hjn
      rw [List.getElem_append_right h']
      simp [ht, hp]
theorem last_tick {l : List Ev} {n : Nat} (h : RowOK l n) (k : Nat) (hk : k < (lastOf l).length) : (lastOf l)[k].t = (n : Int) - ((lastOf l).length : Int) + (k : Int) := by
  rw [lastOf_get l k hk, (h.at_ _ _).1]
  have := lastOf_len l
  have := h.len
  unfold goneOf at *
  omega
theorem row_incr {l : List Ev} {n : Nat} (h : RowOK l n) : l.Pairwise fun a b => a.t < b.t := by
  rw [List.pairwise_iff_getElem]
  intro i j hi hj hij
  rw [(h.at_ i hi).1, (h.at_ j hj).1]
  omega
theorem of_incr {l : List Ev} {n : Nat} (h : RowOK l n) (p : Int) : (ofP l p).Pairwise fun a b => a.t < b.t := by
  unfold ofP lastOf
  exact ((row_incr h).sublist (List.drop_sublist _ _)).filter _
theorem of_part (l : List Ev) (p : Int) (k : Nat) (hk : k < (ofP l p).length) : (ofP l p)[k].p = p := by
  have := List.getElem_mem hk
  unfold ofP at this
  have h2 := (List.mem_filter.1 this).2
  simp only [inP, decide_eq_true_eq] at h2
  exact h2
theorem kind_ok (x : Int) : okK (wrap64 ((IntKind.u64.wrap x).tmod 6)) := by
  rw [IntKind.wrap_u64, Int.tmod_eq_emod_of_nonneg (by omega)]
  unfold okK wrap64
  omega
def sumP (l : List Ev) : Nat → Nat
  | 0 => 0
  | j + 1 => sumP l j + (ofP l (j : Int)).length
theorem sumP_le (l : List Ev) (j : Nat) : sumP l j ≤ j * 64 := by
  induction j with
  | zero => simp [sumP]
  | succ j ih =>
    have : (ofP l (j : Int)).length ≤ 64 := Nat.le_trans (List.length_filter_le _ _) (by rw [lastOf_len']; omega)
    simp only [sumP, Nat.add_mul]
    omega
theorem parts_sum (q : List Ev) (h : ∀ e ∈ q, e.p = 0 ∨ e.p = 1 ∨ e.p = 2 ∨ e.p = 3) : (q.filter (inP 0)).length + (q.filter (inP 1)).length + (q.filter (inP 2)).length + (q.filter (inP 3)).length = q.length := by
  induction q with
  | nil => rfl
  | cons a r ih =>
    have h1 := ih fun e he => h e (List.mem_cons_of_mem _ he)
    have key : ∀ p : Int, ((a :: r).filter (inP p)).length = (r.filter (inP p)).length + if a.p = p then 1 else 0 := fun p => by
      rw [List.filter_cons]
      by_cases e : a.p = p <;> simp [inP, e]
    simp only [key, List.length_cons]
    rcases h a List.mem_cons_self with q' | q' | q' | q' <;> simp only [q'] <;> simp <;> omega
theorem sumP_all {l : List Ev} {n : Nat} (h : RowOK l n) : sumP l 4 = (lastOf l).length := by
  have := parts_sum (lastOf l) (fun e he => by
    unfold lastOf at he
    have hm := List.mem_of_mem_drop he
    obtain ⟨j, hj, rfl⟩ := List.getElem_of_mem hm
    rw [(h.at_ j hj).2]
    omega)
  simp only [sumP, ofP]
  exact Eq.trans (by simp) this
attribute [local go_sem ↓] neqEv same_eta
set_option maxRecDepth 100000 in
set_option maxHeartbeats 3200000 in
theorem healthRow_law (A : Option Addr) (len cap : Nat) (L0 : List Int) (w : World) (hS : IntsIn w (.slice A len cap) L0) (_ : len ≤ cap) (_ : cap ≤ maxLen) :
    Calls Tryd.prog 6 #[.slice A len cap] w fun r w' => r = .returned (.bool true) ∧ Below w.heap.size w w' := by
  obtain ⟨m, hm⟩ : ∃ m : Nat, m = min len 200 := ⟨_, rfl⟩
  have hmi : min (len : Int) 200 = (m : Int) := by omega
  have hm200 : m ≤ 200 := by omega
  have hml : m ≤ len := by omega
  have HS := Lib.hid hS
  clear hS hm
  go_enter Tryd.func6, Tryd.ntmps6
  go_wp2_with fail
  refine (lives_any w).mono ?_
  rintro r w1 ⟨rfl, hB1⟩
  go_wp2_with fail
  refine (hctx_new hB1).mono ?_
  rintro r w2 ⟨rfl, hC⟩
  have HC := Lib.hid hC
  clear hB1 hC
  generalize w1.heap.size = b at *
  go_wp2_with fail
  go_loopw [5] (fun i wr => ∃ (k : Nat) (l : List Ev), k ≤ m ∧ i = .int .i64 k ∧ RowOK l k ∧ HCtx w wr b l) (fun i _ => m - (intOf i).toNat)
  case atStart => exact ⟨0, [], Nat.zero_le _, rfl, rowOK_nil, HC.out⟩
  case round =>
    clear HC
    obtain ⟨k, l, hk, rfl, hR, hC⟩ := hrel
    have HC := Lib.hid hC
    have HR := Lib.hid hR
    clear hC hR
    by_cases hlt : k < m
    · obtain ⟨A', c', e, hcl, hc⟩ := HS.out.below HC.out.bel
      injection e with e1 e2 e3
      subst e1 e3
      obtain ⟨g, o, rfl, hcell⟩ := hc (by omega)
      have hx := hcell k (by omega)
      generalize L0[k] = x at hx
      have b1 : (k : Int) < (m : Int) := by omega
      have b2 : (k : Int) < (len : Int) := by omega
      have b0 : (0 : Int) ≤ (k : Int) := by omega
      clear hc hcell e2 hcl
      have hko := kind_ok x
      have HT := Lib.hid (hctx_tell HC.out ⟨wrap64 ((IntKind.u64.wrap x).tmod 6), (k : Int), (k : Int) % 4, 0, 0⟩ (by rw [HR.out.len]; omega))
      have hte : tellE ⟨wrap64 ((IntKind.u64.wrap x).tmod 6), (k : Int), (k : Int) % 4, 0, 0⟩ = 0 := if_pos hko
      rw [hte] at HT
      have HRN := Lib.hid (rowOK_next HR.out ⟨wrap64 ((IntKind.u64.wrap x).tmod 6), (k : Int), (k : Int) % 4, 0, 0⟩ hko rfl (by simp))
      clear hko hte HR
      go_wp2_with fail
      refine HT.out.mono ?_
      rintro r w3 ⟨rfl, hC, -⟩
      have HC := Lib.hid hC
      clear hC HT
      go_wp2_with fail
      go_roundw
      case rel => exact ⟨k + 1, _, by omega, by go_num, HRN.out, HC.out⟩
      case measure => simp [intOf]; omega
    · obtain rfl : k = m := by omega
      have b1 : ¬ (k : Int) < (k : Int) := by omega
      clear HS hmi hml hlt
      have HA := Lib.hid (hctx_all HC.out (by rw [HR.out.len]; omega))
      obtain ⟨t, ht⟩ : ∃ t, t = (lastOf l).length := ⟨_, rfl⟩
      have htm : min (k : Int) 64 = (t : Int) := by rw [ht, lastOf_len', HR.out.len]; omega
      have ht64 : t ≤ 64 := by rw [ht, lastOf_len']; omega
      have htk : t ≤ k := by rw [ht, lastOf_len', HR.out.len]; omega
      have HT := Lib.hid ht
      have HTI := Lib.hid (fun (j : Nat) (hj : j < (lastOf l).length) => last_tick HR.out j hj)
      have HOF := Lib.hid (fun (w' : World) (h : HCtx w w' b l) (p : Int) => hctx_of h (by rw [HR.out.len]; omega) p)
      clear ht
      go_wp2_with fail
      refine HA.out.mono ?_
      rintro r w3 ⟨v, rfl, hE, hC, -⟩
      obtain ⟨A3, c3, rfl⟩ := hE.form
      have HE := Lib.hid hE
      have HC3 := Lib.hid hC
      rw [← HT.out]
      clear hE hC HA HC
      go_wp2_with fail
      go_loopw [7] (fun i wr => ∃ (j : Nat), j ≤ t ∧ i = .int .i64 j ∧ wr = w3) (fun i _ => t - (intOf i).toNat)
      case atStart => exact ⟨0, Nat.zero_le _, rfl, rfl⟩
      case round =>
        obtain ⟨j, hj, rfl, rfl⟩ := hrel
        by_cases hjt : j < t
        · obtain ⟨A', c', e, hcl, hc⟩ := HE.out
          injection e with e1 e2 e3
          subst e1 e3
          have hjl : j < (lastOf l).length := by rw [← HT.out]; exact hjt
          obtain ⟨g, o, rfl, hcell⟩ := hc (by omega)
          have hev := hcell j hjl
          have htick := HTI.out j hjl
          rw [← HT.out] at htick
          have c1 := hev.t
          rw [htick] at c1
          have b1 : (j : Int) < (t : Int) := by omega
          have b0 : (0 : Int) ≤ (j : Int) := by omega
          clear hev hcell hc e2 hcl htick
          go_wp2_with fail
          go_roundw
          case rel => exact ⟨j + 1, by omega, by go_num, by first | rfl | trivial⟩
          case measure => simp [intOf]; omega
        · obtain rfl : j = t := by omega
          have b1 : ¬ (j : Int) < (j : Int) := by omega
          clear HTI HE
          have HSA := Lib.hid (sumP_all HR.out)
          rw [← HT.out] at HSA
          go_wp2_with fail
          go_loopw [8, 9] (fun s i wx => ∃ (p : Nat), p ≤ 4 ∧ i = .int .i64 p ∧ s = .int .i64 (sumP l p) ∧ HCtx w wx b l) (fun _ i _ => 4 - (intOf i).toNat)
          case atStart => exact ⟨0, by omega, rfl, rfl, HC3.out⟩
          case round =>
            clear HC3
            obtain ⟨p, hp, rfl, rfl, hC⟩ := hrel
            have HC := Lib.hid hC
            clear hC
            by_cases hp4 : p < 4
            · have b2 : (p : Int) < 4 := by omega
              have hsl := sumP_le l p
              have hsl2 : sumP l p ≤ 300 := by omega
              have HSN := Lib.hid (show sumP l (p + 1) = sumP l p + (ofP l (p : Int)).length from rfl)
              have hol : (ofP l (p : Int)).length ≤ 64 := Nat.le_trans (List.length_filter_le _ _) (by rw [lastOf_len']; omega)
              have HP := Lib.hid (fun (i : Nat) (h : i < (ofP l (p : Int)).length) => of_part l (p : Int) i h)
              have HINC := Lib.hid (List.pairwise_iff_getElem.1 (of_incr HR.out (p : Int)))
              have HO := Lib.hid (HOF.out _ HC.out (p : Int))
              generalize sumP l p = sp at *
              generalize ofP l (p : Int) = Q at *
              clear hsl
              go_wp2_with fail
              refine HO.out.mono ?_
              rintro r w5 ⟨v5, rfl, hE5, hC5, -⟩
              obtain ⟨A5, c5, rfl⟩ := hE5.form
              have HE5 := Lib.hid hE5
              have HC5 := Lib.hid hC5
              clear hE5 hC5 HO HC
              go_wp2_with fail
              go_loopw [11] (fun i wx => ∃ (j : Nat), j ≤ Q.length ∧ i = .int .i64 j ∧ ∃ n, wx = w5.drewN n) (fun i _ => Q.length - (intOf i).toNat)
              case atStart => exact ⟨0, Nat.zero_le _, rfl, 0, rfl⟩
              case round =>
                obtain ⟨i, hi, rfl, n, rfl⟩ := hrel
                by_cases hiq : i < Q.length
                · obtain ⟨A', c', e, hcl, hc⟩ := HE5.out
                  injection e with e1 e2 e3
                  subst e1 e3
                  obtain ⟨g, o, rfl, hcell⟩ := hc (by omega)
                  have c2 := (hcell i hiq).p
                  rw [HP.out i hiq] at c2
                  have c1 := (hcell i hiq).t
                  have b3 : (i : Int) < (Q.length : Int) := by omega
                  have b4 : (0 : Int) ≤ (i : Int) := by omega
                  clear hc e2 hcl
                  by_cases hi0 : i = 0
                  · subst hi0
                    clear hcell
                    generalize Q[0] = z at *
                    go_wp2_with fail
                    go_quiet (fail)
                    go_wp2_with fail
                    go_roundw
                    case rel => exact ⟨1, by omega, by go_num, _, rfl⟩
                    case measure => simp [intOf]; omega
                  · obtain ⟨i, rfl⟩ : ∃ i', i = i' + 1 := ⟨i - 1, by omega⟩
                    have c0 := (hcell i (by omega)).t
                    have hlt2 := HINC.out i (i + 1) (by omega) hiq (by omega)
                    have b5 : (0 : Int) < ((i + 1 : Nat) : Int) := by omega
                    have b6 : ¬ Q[i + 1].t ≤ Q[i].t := by omega
                    have s7 : IntKind.i64.wrap (((i : Int) + 1) - 1) = (i : Int) := by rw [IntKind.wrap_i64]; omega
                    have s8 : IntKind.i64.wrap (i : Int) = (i : Int) := by rw [IntKind.wrap_i64]; omega
                    have b7 : (i : Int) < (Q.length : Int) := by omega
                    have b8 : (0 : Int) ≤ (i : Int) := by omega
                    clear hcell hi0 hlt2
                    generalize Q[i + 1] = z at *
                    generalize Q[i] = y at *
                    go_wp2_with fail
                    go_quiet (fail)
                    go_wp2_with fail
                    go_roundw
                    case rel => exact ⟨i + 1 + 1, by omega, by go_num, _, rfl⟩
                    case measure => simp [intOf]; omega
                · obtain rfl : i = Q.length := by omega
                  have b3 : ¬ (Q.length : Int) < (Q.length : Int) := by omega
                  go_wp2_with fail
                  go_roundw
                  case rel => exact ⟨p + 1, by omega, by go_num, by rw [HSN.out]; go_num, HC5.out.drewN n⟩
                  case measure => simp [intOf]; omega
            · obtain rfl : p = 4 := by omega
              have b2 : ¬ ((4 : Nat) : Int) < 4 := by omega
              rw [HSA.out]
              go_wp2_with fail
              go_ret
              exact ⟨rfl, HC.out.bel⟩
end Go.Proofs.YtbnaehfgpilicaaDoor
