/- PoolLowest: the walk. -/
import Derived.Test.YtjmhdkcnllnekaaPoolPure
import Derived.Deep.DeepCutAuto
namespace Go.Proofs.Ytjmhdkcnllnekaa
open Go.RowKit
theorem info4 : (Try.prog.info? 4).map (fun i => (i.zero, i.size, i.bytes)) = some (some (.bool false), 1, 1) := by kernel_rfl
def frees (p : PS) (k : Nat) : List Value := (List.range k).map fun i => Value.bool (!p.tk i)
theorem frees_succ (p : PS) (k : Nat) : frees p (k + 1) = frees p k ++ [.bool (!p.tk k)] := by simp [frees, List.range_succ]
theorem frees_get (p : PS) (k i : Nat) (h : i < k) : (frees p k)[i]? = some (.bool (!p.tk i)) := by simp [frees, h]

set_option maxRecDepth 100000 in
set_option maxHeartbeats 3200000 in
theorem poolLowest_walk (n0 : Int) (A : Option Addr) (len cap bs off : Nat) (K S O : Nat → Int) (w : World) (hS : Script w A len bs off K S O) (hlc : len ≤ cap) (hcap : cap ≤ maxLen) :
    Calls Try.prog 4 #[.int .i64 n0, .slice A len cap] w fun e w' => e = .returned (.bool true) ∧ Below w.heap.size w w' := by
  go_enter Try.func4, Try.ntmps4
  go_wp2_with fail
  refine (lives_any w).mono ?_
  rintro e w1 ⟨rfl, hB1⟩
  go_wp2_with fail
  refine (ctx_new n0 hB1).mono ?_
  rintro e w2 ⟨rfl, C2⟩
  generalize w1.heap.size = b at *
  go_wp2_with fail
  refine (early_any A len cap w2 hlc hcap).mono ?_
  rintro e w3 ⟨rfl, rfl⟩
  have hn := slotsOf_le n0
  generalize slotsOf n0 = m at *
  have hS' := Lib.hid (hS.less (m := min len 80) (by omega))
  have hm : min len 80 ≤ 80 := by omega
  have hmc : min len 80 ≤ cap := by omega
  unfold maxLen at hcap
  generalize min len 80 = L at *
  have C2' := Lib.hid C2
  clear hS C2 hB1 hlc
  go_wp2
  go_loopw [6] (fun i wr => ∃ (k : Nat) (p : PS), k ≤ L ∧ i = .int .i64 k ∧ Ctx w wr b p ∧ p.tuLe k ∧ p.n = m ∧ p.inv) (fun i _ => L - (intOf i).toNat)
  case atStart => exact ⟨0, PS.new m, Nat.zero_le _, rfl, C2'.out, tuLe_new _ _, rfl, inv_new _⟩
  case round =>
    obtain ⟨k, p, hk, rfl, hC, ht, hpn, hinv⟩ := hrel
    have HC := Lib.hid hC
    have HT := Lib.hid ht
    have HN := Lib.hid hpn
    have HI := Lib.hid hinv
    clear hC ht hpn hinv
    by_cases hlt : k < L
    · obtain rfl : A = some ⟨bs, off, none⟩ := hS'.out.at_.resolve_right (by omega)
      have s2 := (hS'.out.below HC.out.bel).c2 k hlt
      go_wp2_with fail
      refine (ctx_take HC.out (O k) HT.out (by omega)).mono ?_
      rintro e w4 ⟨rfl, hC4⟩
      have HC4 := Lib.hid hC4
      have t1 := (hS'.out.below HC4.out.bel).c1 k hlt
      have t2 := (hS'.out.below HC4.out.bel).c2 k hlt
      clear hC4 s2
      go_wp2_with fail
      go_still_tail 11, (by kernel_rfl)
      change wpList _ _ _ _ _ w4.drew
      go_wp2_with (fail)
      refine (ctx_give (HC4.out.drewN 1) (S k) (O k)).mono ?_
      rintro e w6 ⟨rfl, hC6⟩
      have HC6 := Lib.hid hC6
      clear hC6 t1 t2
      go_wp2
      go_roundw
      case rel => exact ⟨k + 1, _, by omega, by go_num, HC6.out, tuLe_give (tuLe_take HT.out _) _ _, (give_n _ _ _).trans ((take_n _ _).trans HN.out), inv_give (inv_take HI.out _) _ _⟩
      case measure => simp [intOf]; omega
    · obtain rfl : k = L := by omega
      go_wp2_with fail
      refine (ctx_free HC.out).mono ?_
      rintro e w4 ⟨rfl, hC4⟩
      have HC4 := Lib.hid hC4
      have hfm := free_le p
      rw [HN.out] at hfm
      have HF := Lib.hid (rfl : (freeOf p).length = (freeOf p).length)
      clear hC4 HC hS'
      have HL := Lib.hid (show ∃ p' : PS, (freeOf p').length = (freeOf p).length - 0 ∧ Ctx w w4 b p' ∧ p'.tuLe (80 + 0) ∧ p'.n = m ∧ p'.inv from ⟨p, rfl, HC4.out, tuLe_mono HT.out (by omega), HN.out, HI.out⟩)
      clear HC4 HT HN HI HF
      generalize (freeOf p).length = n at *
      clear p
      go_wp2
      go_loopw [8] (fun i wx => ∃ j : Nat, j ≤ n ∧ i = .int .i64 j ∧ ∃ p' : PS, (freeOf p').length = n - j ∧ Ctx w wx b p' ∧ p'.tuLe (80 + j) ∧ p'.n = m ∧ p'.inv) (fun i _ => n - (intOf i).toNat)
      case atStart => exact ⟨0, Nat.zero_le _, rfl, HL.out⟩
      case round =>
        clear HL
        obtain ⟨j, hj, rfl, p, hfl, hC, ht, hpn, hinv⟩ := hrel
        have HC := Lib.hid hC
        have HT := Lib.hid ht
        have HN := Lib.hid hpn
        have HI := Lib.hid hinv
        have HF := Lib.hid hfl
        clear hC ht hpn hinv hfl
        by_cases hlt2 : j < n
        · have j64 : (j : Int) < 64 := by omega
          rcases hf : freeOf p with _ | ⟨i0, rest⟩
          · have := HF.out
            rw [hf] at this
            simp at this
            omega
          have HFF := Lib.hid hf
          obtain ⟨hi0, ht0, _⟩ := free_head hf
          have HT0 := Lib.hid ht0
          clear hf ht0
          have him : i0 < m := by have := HN.out; omega
          obtain ⟨wo, rfl⟩ : ∃ wo : World, wo = wr := ⟨_, rfl⟩
          have hbo := HC.out.lt
          go_wp2
          go_loopw [9, 10] (fun v i wx => ∃ q : Nat, q ≤ m ∧ i = .int .i64 q ∧ wx.ownsRow wo.heap.size 4 1 v q (frees p q) ∧ Below wo.heap.size wo wx) (fun _ i _ => m - (intOf i).toNat)
          case atStart => exact ⟨0, Nat.zero_le _, rfl, ⟨rfl, Or.inl ⟨rfl, rfl⟩⟩, Below.refl _ _⟩
          case round =>
            obtain ⟨q, hq, rfl, hown, hbel⟩ := hrel
            have HO := Lib.hid hown
            have HCr := Lib.hid (HC.out.below hbel)
            have HB := Lib.hid hbel
            have hsz := hbel.size
            clear hown hbel
            by_cases hlt3 : q < m
            · have hsuc := Lib.hid (frees_succ p q)
              go_wp2_with fail
              refine (ctx_len HCr.out HN.out).mono ?_
              rintro e w7 ⟨rfl, rfl⟩
              go_wp2_with fail
              refine (ctx_owner HCr.out q (by rw [HN.out]; exact hlt3)).mono ?_
              rintro e w7 ⟨rfl, nq, rfl⟩
              go_wp2_with (at_builtin; refine app_one (W := wr.drewN nq) rfl _ _ 36 rfl wo.heap.size 4 (.bool false) 1 1 Try.underlying36 info4 rfl (by decide) u9 _ _ rfl HO.out #[.bool (!p.tk q)] rfl rfl ?_ ?_ ?_ ?_ ?_)
              · simp [Value.oneCell']
              · omega
              · omega
              · exact hsz
              intro v' w8 hown' hbel' _
              have HO' := Lib.hid hown'
              have HB' := Lib.hid (HB.out.trans ((below_drewN' wr nq).trans hbel'))
              clear hown' hbel' HO HB HCr
              go_wp2
              go_roundw
              case rel =>
                refine ⟨q + 1, by omega, by go_num, ?_, HB'.out⟩
                rw [hsuc.out]
                exact HO'.out
              case measure => simp [intOf]; omega
            · obtain rfl : q = m := by omega
              obtain ⟨g, cp, rfl, hg1, hg2, hnc, hc, _⟩ := own_pos HO.out (by omega)
              have hcell := Lib.hid hc
              clear hc
              go_wp2_with fail
              refine (ctx_len HCr.out HN.out).mono ?_
              rintro e w7 ⟨rfl, rfl⟩
              go_wp2_with fail
              refine (ctx_take_only HCr.out 9 HT.out (by omega) (take_cons HFF.out 9)).mono ?_
              rintro e w7 ⟨rfl, hC7, hG7⟩
              have HC7 := Lib.hid hC7
              have hcell7 := Lib.hid (show ∀ i, i < q → w7.cell? ⟨g, i, none⟩ = some (.bool (!p.tk i)) from fun i hi => hG7.cell ((hcell.out i (by omega)).trans (frees_get p q i hi)) (by simp; omega))
              have hg7 := hG7.size
              clear hC7 hG7 hcell
              have ci := hcell7.out i0 him
              rw [HT0.out] at ci
              have b1 : (0 : Int) ≤ (i0 : Int) := by omega
              have b2 : (i0 : Int) < (q : Int) := by omega
              go_wp2
              go_loop [15] (fun x => ∃ t : Nat, t ≤ i0 ∧ x = .int .i64 t) (fun x => i0 - (intOf x).toNat)
              case atStart => exact ⟨0, Nat.zero_le _, rfl⟩
              case round =>
                obtain ⟨t, htl, rfl⟩ := hrel
                by_cases hlt4 : t < i0
                · have ct := hcell7.out t (by omega)
                  rw [free_lowest HI.out HFF.out t hlt4] at ct
                  go_wp2
                  go_round
                  case rel => exact ⟨t + 1, by omega, by go_num⟩
                  case measure => simp [intOf]; omega
                · obtain rfl : t = i0 := by omega
                  go_wp2
                  go_roundw
                  case rel => exact ⟨j + 1, by omega, by go_num, _, by rw [free_take HFF.out]; have := HF.out; rw [HFF.out, List.length_cons] at this; omega, HC7.out, by have := tuLe_take HT.out 9; rw [take_cons HFF.out] at this; exact this, HN.out, inv_set HI.out t true 9 (.inl rfl)⟩
                  case measure => simp [intOf]; omega
        · obtain rfl : j = n := by omega
          have hf : freeOf p = [] := List.eq_nil_of_length_eq_zero (by rw [HF.out]; omega)
          have HFF := Lib.hid hf
          clear hf HF
          go_wp2_with fail
          refine (ctx_take_only HC.out 9 HT.out (by omega) (take_empty HFF.out 9)).mono ?_
          rintro e w7 ⟨rfl, hC7, hG7⟩
          have HC7 := Lib.hid hC7
          clear hC7 hG7
          go_wp2_with fail
          refine (ctx_free HC7.out).mono ?_
          rintro e w8 ⟨rfl, hC8⟩
          rw [HFF.out]
          have HB8 := Lib.hid hC8.bel
          clear hC8
          go_wp2
          go_ret
          exact ⟨rfl, HB8.out⟩
end Go.Proofs.Ytjmhdkcnllnekaa
