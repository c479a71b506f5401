/- LinkIns, walked: any packet of any epoch: each answer. -/
import Derived.Test.YtagemhmjpfldoaaLinkInAt
import Derived.Deep.CutRange
import Derived.Deep.CutBlock
namespace Go.Proofs.Ytagemhmjpfldoaa.LinkIns
open Go.RowKit
set_option linter.unusedVariables false
set_option linter.unusedSimpArgs false

set_option maxRecDepth 100000 in
set_option maxHeartbeats 40000000 in
theorem walk (w : World) (N P : Int) (hN : 0 ≤ N ∧ N ≤ 18446744073709551615) (hP : -9223372036854775808 ≤ P ∧ P ≤ 9223372036854775807) (g : Int) (hg : 0 ≤ g ∧ g ≤ 18446744073709551615)
    (ia : Option Addr) (il ic : Nat) (xs : List Value) (hs : Sl w (.slice ia il ic) xs) (ho : ∀ x ∈ xs, ∃ s : ByteArray, x = .string s) (e : Int) (he : 0 ≤ e ∧ e ≤ 18446744073709551615)
    (pa : Option Addr) (pl pc : Nat) (ps : List Value) (hps : Sl w (.slice pa pl pc) ps) (hpo : ∀ x ∈ ps, ∃ n : Int, x = .int .i64 n ∧ (Lit.int .i64 n).wf = true) (same : Bool) :
    Calls Try.prog 5 #[.agg #[.int .u64 N, .int .i64 P, .int .u64 g, .slice ia il ic, .int .u64 e], .slice pa pl pc, .bool same] w fun e w' => e = .returned (.bool true) ∧ Kept [] w w' := by
  obtain ⟨hN1, hN2⟩ := hN
  obtain ⟨hP1, hP2⟩ := hP
  obtain ⟨gn, rfl⟩ := Int.eq_ofNat_of_zero_le hg.1
  obtain ⟨en, rfl⟩ := Int.eq_ofNat_of_zero_le he.1
  obtain ⟨hn, hcap, hmax⟩ := hs.len
  subst hn
  obtain ⟨hpn, hpcap, hpmax⟩ := hps.len
  subst hpn
  unfold maxLen at hmax hpmax
  obtain ⟨hg1, hg2⟩ := hg
  obtain ⟨he1, he2⟩ := he
  have hal : Kept [] w (w.alloc (.cells #[.int .u64 N, .int .i64 P, .int .u64 (gn : Int), .slice ia xs.length ic, .int .u64 (en : Int)] 45)) := (Kept.refl _ _).alloc _
  have HAL := hid hal
  clear hal
  go_enter Try.func5, Try.ntmps5
  go_wp2_with fail
  refine (awake_any _).mono ?_
  rintro e' w1 ⟨rfl, hK1⟩
  have hb1 := hK1.blk (blk_alloc_new w (.cells #[.int .u64 N, .int .i64 P, .int .u64 (gn : Int), .slice ia xs.length ic, .int .u64 (en : Int)] 45)) (by simp)
  have c2 : w1.cell? ⟨w.heap.size, 3, none⟩ = some (.slice ia xs.length ic) := by rw [cell_of hb1]; rfl
  have HK1 := hid (HAL.out.trans hK1)
  have HB1 := hid hb1
  clear hK1 hb1
  by_cases hbad : (300 : Int) < (xs.length : Int)
  · go_wp2_with fail
    refine (awake_any _).mono ?_
    rintro e' w2 ⟨rfl, hK2⟩
    go_wp2
    go_ret
    exact ⟨rfl, HK1.out.trans hK2⟩
  go_wp2_with fail
  refine (begin_any 11 3 (by omega) (by omega) 12 4 rfl rfl w1).mono ?_
  rintro e' w2 ⟨wb, A, B, rfl, hA1, hA2, hB1, hB2, hb2, hLA, hLB, hK2, hwb, hfA, hfB, hAB, hwA, hwB⟩
  have HT := hid (Two.of hb2 rfl rfl : Two w2 wb A B)
  have HLB := hid hLB
  have HB2 := hid (HB1.out.symm ▸ hK2.blk HB1.out (by simp) : w2.heap[w.heap.size]? = some (.cells #[.int .u64 N, .int .i64 P, .int .u64 (gn : Int), .slice ia xs.length ic, .int .u64 (en : Int)] 45 (0, 0)))
  have HK2 := hid (HK1.out.trans hK2)
  have hsz1 := HK1.out.size
  have hlt1 := lt_of_blk HB1.out
  have HFB := hid (fun x hx => by have := hfB x hx; omega : ∀ x ∈ B.all, w.heap.size < x)
  have HWB := hid hwB
  have HWW := hid (by omega : w.heap.size < wb)
  have HE1 := hid hB1
  have HE2 := hid hB2
  clear hA1 hA2 hB1 hB2 hb2 hLA hLB hK2 hwb hfA hfB hAB hwA hwB hsz1 hlt1 c2
  go_wp2_with fail
  go_loopw [8] (fun iv wr => ∃ i : Nat, i ≤ ps.length ∧ i ≤ 12 ∧ iv = .int .i64 (i : Int) ∧ LIn.Link wr B 12 4 0 (ps.take i) 0 [] ∧ Kept B.all w2 wr) (fun iv _ => ps.length - (intOf iv).toNat)
  case atStart => exact ⟨0, by omega, by omega, rfl, HLB.out, Kept.refl _ _⟩
  case round =>
    obtain ⟨i, hi, hil, rfl, hL, hKp⟩ := hrel
    have HL := hid hL
    have HKp := hid hKp
    have HT2 := hid (HT.out.kept hKp HWB.out)
    have HBp := hid (hKp.blk HB2.out (fun h => by have := HFB.out _ h; omega))
    have HKw := hid (HK2.out.join hKp (fun k hk hlt => by have := HFB.out k hk; omega) : Kept [] w wr)
    clear hL hKp
    go_upto_region 7 with fail
    go_cut [32] from 25 to 32 (fun c wx => c = .bool (decide (i < ps.length ∧ i < 12)) ∧ wx = wr)
    case first =>
      by_cases h1 : i < ps.length
      · by_cases h2 : i < 12
        · have h2i : (i : Int) < 12 := by omega
          go_wp2
          go_meet
          exact ⟨by simp [h1, h2], rfl⟩
        · have h2i : ¬ (i : Int) < 12 := by omega
          go_wp2
          go_meet
          exact ⟨by simp [h2], rfl⟩
      · go_wp2
        go_meet
        exact ⟨by simp [h1], rfl⟩
    case rest =>
    obtain ⟨hc1, hc2⟩ := hcut
    have hc2 := hc2.symm
    subst hc2
    by_cases hlt : i < ps.length ∧ i < 12
    · obtain ⟨hlt, hlt2⟩ := hlt
      rw [decide_eq_true (⟨hlt, hlt2⟩ : i < ps.length ∧ i < 12)] at hc1
      subst hc1
      have hlt3 : (i : Int) < (ps.length : Int) := by omega
      obtain ⟨g, off, rfl, hc⟩ := (hps.old HKw.out (by simp)).cell hlt
      obtain ⟨z, hz, _⟩ := hpo _ (List.getElem_mem hlt)
      have HZ := hid hz
      rw [hz] at hc
      have cb := HT2.out.b
      clear hz
      go_wp2
      refine wp_region_quiet_tail 8 (by kernel_rfl) (by kernel_rfl) ?_
      simp only [List.take_succ_cons, List.take_zero, List.drop_succ_cons, List.drop_zero]
      repeat (go_big_quiet_step (fail))
      refine wpQuiet_nil ?_
      go_wp2_with fail
      refine (LIn.put_ok (by exact HL.out.sim ⟨rfl, rfl, rfl, rfl⟩) (by rw [List.length_take]; omega) z).mono ?_
      rintro e' w4 ⟨rfl, hL4, hK4⟩
      have hL5 : LIn.Link w4 B 12 4 0 (ps.take (i + 1)) 0 [] := by rw [List.take_succ_eq_append_getElem hlt, HZ.out]; exact hL4
      have hK5 : Kept B.all w2 w4 := HKp.out.trans ((hK4.as ⟨rfl, rfl, rfl, rfl⟩ : Kept B.so wr w4).mono Ends.so_all)
      have HL5 := hid hL5
      have HK5 := hid hK5
      clear hL4 hK4 hL5 hK5 hc cb
      go_wp2_with fail
      go_roundw
      case rel => exact ⟨i + 1, by omega, by omega, by go_num, HL5.out, HK5.out⟩
      case measure => simp [intOf]; omega
    · rw [decide_eq_false hlt] at hc1
      subst hc1
      obtain ⟨lo, hlo⟩ : ∃ lo, lo = ps.take i := ⟨_, rfl⟩
      have hll : lo.length = min ps.length 12 := by rw [hlo, List.length_take]; omega
      have HLo := hid (by rw [hlo]; exact HL.out : LIn.Link wr B 12 4 0 lo 0 [])
      have hltB := hid HL.out.lt
      have HBn := hid (fun h => by have := HFB.out _ h; omega : w.heap.size ∉ B.all)
      have HWn := hid (by have := HWW.out; omega : wb ≠ w.heap.size)
      have hlb := hid (lt_of_blk HBp.out)
      clear HL hlo hlt HLB HB2 HT HK2 HKp hi hil
      obtain ⟨S, hS⟩ : ∃ S : Nat, S = min ps.length 4 := ⟨_, rfl⟩
      go_upto_if 48 with fail
      go_cut [9] from 47 to 48 (fun s9 wx => s9 = .int .i64 (S : Int) ∧ wx = wr)
      case first =>
        by_cases h4 : 4 < ps.length
        · have h4i : (4 : Int) < (ps.length : Int) := by omega
          go_wp2
          go_meet
          exact ⟨by rw [show S = 4 by omega]; rfl, rfl⟩
        · have h4i : ¬ (4 : Int) < (ps.length : Int) := by omega
          go_wp2
          go_meet
          exact ⟨by rw [show S = ps.length by omega], rfl⟩
      case rest =>
      obtain ⟨hs9, hc2⟩ := hcut
      have hc2 := hc2.symm
      subst hs9
      subst hc2
      have hS4 : (S : Int) ≤ 4 := by omega
      cases same
      · by_cases hN4 : N = 4
        · subst hN4
          by_cases hP2 : P = 2
          · subst hP2
            have HL5 := hid HLo.out
            have HT5 := hid HT2.out
            have HB5 := hid HBp.out
            have HK5 := hid HKw.out
            have c0 : (wr).cell? ⟨w.heap.size, 0, none⟩ = some (.int .u64 4) := by rw [cell_of HB5.out]; rfl
            have c1 : (wr).cell? ⟨w.heap.size, 0 + 1, none⟩ = some (.int .i64 2) := by rw [cell_of HB5.out]; rfl
            have c2 : (wr).cell? ⟨w.heap.size, 0 + 2, none⟩ = some (.int .u64 (gn : Int)) := by rw [cell_of HB5.out]; rfl
            have c3 : (wr).cell? ⟨w.heap.size, 0 + 3, none⟩ = some (.slice ia xs.length ic) := by rw [cell_of HB5.out]; rfl
            have c4 : (wr).cell? ⟨w.heap.size, 0 + 4, none⟩ = some (.int .u64 (en : Int)) := by rw [cell_of HB5.out]; rfl
            have cb := HT5.out.b
            have hsm : min lo.length 4 = S := by omega
            by_cases hE : S < en
            · have hEi : ((S : Nat) : Int) < (en : Int) := by omega
              have hbd : ((min lo.length 4 : Nat) : Int) < (en : Int) - ((0 : Nat) : Int) := by omega
              go_wp2
              go_cut [10, 11] from 52 to 60 (fun s10 s11 wx => s10 = .int .i64 0 ∧ s11 = .int .i64 1 ∧ Kept [] (wr) wx)
              case first =>
                go_region_with (go_at_call 14; refine (LIn.in_bad_at (by exact HL5.out.sim ⟨rfl, rfl, rfl, rfl⟩) 4 2 HE1.out.symm HE2.out.symm (gn : Int) (en : Int) (by omega) (by omega) hbd ia xs.length ic).mono ?_; rintro e' w6 ⟨rfl, hK6⟩; have HK6 := hid (hK6.as ⟨rfl, rfl, rfl, rfl⟩ : Kept [] (wr) w6); clear hK6)
                all_goals
                  go_wp2_with fail
                  go_meet
                  exact ⟨rfl, rfl, HK6.out⟩
              case rest =>
              obtain ⟨hs10, hs11, hK6⟩ := hcut
              subst hs10
              subst hs11
              have HK6 := hid hK6
              clear hK6
              have hb6 := HK6.out.blk HB5.out (by simp)
              have d0 : wc.cell? ⟨w.heap.size, 0, none⟩ = some (.int .u64 4) := by rw [cell_of hb6]; rfl
              have d1 : wc.cell? ⟨w.heap.size, 0 + 1, none⟩ = some (.int .i64 2) := by rw [cell_of hb6]; rfl
              have d2 : wc.cell? ⟨w.heap.size, 0 + 2, none⟩ = some (.int .u64 (gn : Int)) := by rw [cell_of hb6]; rfl
              have d3 : wc.cell? ⟨w.heap.size, 0 + 3, none⟩ = some (.slice ia xs.length ic) := by rw [cell_of hb6]; rfl
              have d4 : wc.cell? ⟨w.heap.size, 0 + 4, none⟩ = some (.int .u64 (en : Int)) := by rw [cell_of hb6]; rfl
              have HT6 := hid (HT5.out.kept HK6.out (by simp))
              have cb6 := HT6.out.b
              have HK7 := hid (HK5.out.join HK6.out (S := []) (by simp))
              clear hb6 cb c0 c1 c2 c3 c4
              have HL6 := hid (HL5.out.still HK6.out)
              go_wp2_with fail
              refine (LIn.got_any HL6.out).mono ?_
              rintro e' w7 ⟨rfl, hw7⟩
              subst hw7
              go_wp2_with fail
              refine (LIn.acked_any HL6.out).mono ?_
              rintro e' w7 ⟨rfl, hw7⟩
              subst hw7
              go_wp2
              go_ret
              exact ⟨rfl, HK7.out⟩
            · have hEi : ¬ ((S : Nat) : Int) < (en : Int) := by omega
              have hbd : en ≤ 0 + min lo.length 4 := by omega
              by_cases hG : 0 < gn
              · have hGi : (0 : Int) < (gn : Int) := by omega
                go_wp2
                go_cut [10, 11] from 52 to 60 (fun s10 s11 wx => s10 = .int .i64 0 ∧ s11 = .int .i64 1 ∧ LIn.Link wx B 12 4 en (lo.drop en) 0 [] ∧ Kept B.all (wr) wx)
                case first =>
                  go_region_with (go_at_call 14; refine (LIn.in_gap_at (by exact HL5.out.sim ⟨rfl, rfl, rfl, rfl⟩) 4 2 HE1.out.symm HE2.out.symm (gn : Int) en hbd (by omega) (by omega) ia xs.length ic).mono ?_; rintro e' w6 ⟨rfl, hL6, hK6⟩; have HK6 := hid (hK6.as ⟨rfl, rfl, rfl, rfl⟩ : Kept B.all (wr) w6); have HL6 := hid (by simpa using hL6 : LIn.Link w6 B 12 4 en (lo.drop en) 0 []); clear hL6; clear hK6)
                  all_goals
                    go_wp2_with fail
                    go_meet
                    exact ⟨rfl, rfl, HL6.out, HK6.out⟩
                case rest =>
                obtain ⟨hs10, hs11, hL6, hK6⟩ := hcut
                subst hs10
                subst hs11
                have HK6 := hid hK6
                have HL6 := hid hL6
                clear hL6
                clear hK6
                have hb6 := HK6.out.blk HB5.out HBn.out
                have d0 : wc.cell? ⟨w.heap.size, 0, none⟩ = some (.int .u64 4) := by rw [cell_of hb6]; rfl
                have d1 : wc.cell? ⟨w.heap.size, 0 + 1, none⟩ = some (.int .i64 2) := by rw [cell_of hb6]; rfl
                have d2 : wc.cell? ⟨w.heap.size, 0 + 2, none⟩ = some (.int .u64 (gn : Int)) := by rw [cell_of hb6]; rfl
                have d3 : wc.cell? ⟨w.heap.size, 0 + 3, none⟩ = some (.slice ia xs.length ic) := by rw [cell_of hb6]; rfl
                have d4 : wc.cell? ⟨w.heap.size, 0 + 4, none⟩ = some (.int .u64 (en : Int)) := by rw [cell_of hb6]; rfl
                have HT6 := hid (HT5.out.kept HK6.out HWB.out)
                have cb6 := HT6.out.b
                have HK7 := hid (HK5.out.join HK6.out (S := []) (fun k hk hlt => by have := HFB.out k hk; omega))
                clear hb6 cb c0 c1 c2 c3 c4
                have Q1 := hid (LIn.acked_q HL6.out)
                go_wp2_with fail
                go_quiet ((go_at_call 22; exact Calls.quiet_of_same (Q1.out _)))
                go_wp2
                go_ret
                exact ⟨rfl, HK7.out.drewN' _⟩
              · obtain rfl : gn = 0 := by omega
                by_cases hX : 12 < xs.length
                · have hXi : (12 : Int) < (xs.length : Int) := by omega
                  go_wp2
                  go_cut [10, 11] from 52 to 60 (fun s10 s11 wx => s10 = .int .i64 12 ∧ s11 = .int .i64 0 ∧ LIn.Link wx B 12 4 en (lo.drop en) 12 (xs.take 12) ∧ Kept B.all (wr) wx)
                  case first =>
                    go_region_with (go_at_call 14; refine (LIn.in_at (by exact HL5.out.sim ⟨rfl, rfl, rfl, rfl⟩) 4 2 HE1.out.symm HE2.out.symm 0 en hbd (by omega) (by omega) (by omega) ia xs.length ic xs (by exact (hs.old HK5.out (by simp)).kept (S := []) (⟨rfl, rfl, rfl, Nat.le_refl _, fun _ _ _ => rfl⟩) (not_in_nil _)) ho (by exact fun hp k hk hm => by have h1 := hs.lt hp k hk; have h2 := HFB.out k hm; omega)).mono ?_; rintro e' w6 ⟨k1, hk1, rfl, hL6, hK6⟩; have HK6 := hid (hK6.as ⟨rfl, rfl, rfl, rfl⟩ : Kept B.all (wr) w6); obtain rfl : k1 = 12 := (by simp at hk1; omega); have HL6 := hid (by simpa using hL6 : LIn.Link w6 B 12 4 en (lo.drop en) 12 (xs.take 12)); clear hL6 hk1; clear hK6)
                    all_goals
                      go_wp2_with fail
                      go_meet
                      exact ⟨rfl, rfl, HL6.out, HK6.out⟩
                  case rest =>
                  obtain ⟨hs10, hs11, hL6, hK6⟩ := hcut
                  subst hs10
                  subst hs11
                  have HK6 := hid hK6
                  have HL6 := hid hL6
                  clear hL6
                  clear hK6
                  have hb6 := HK6.out.blk HB5.out HBn.out
                  have d0 : wc.cell? ⟨w.heap.size, 0, none⟩ = some (.int .u64 4) := by rw [cell_of hb6]; rfl
                  have d1 : wc.cell? ⟨w.heap.size, 0 + 1, none⟩ = some (.int .i64 2) := by rw [cell_of hb6]; rfl
                  have d2 : wc.cell? ⟨w.heap.size, 0 + 2, none⟩ = some (.int .u64 ((0 : Nat) : Int)) := by rw [cell_of hb6]; rfl
                  have d3 : wc.cell? ⟨w.heap.size, 0 + 3, none⟩ = some (.slice ia xs.length ic) := by rw [cell_of hb6]; rfl
                  have d4 : wc.cell? ⟨w.heap.size, 0 + 4, none⟩ = some (.int .u64 (en : Int)) := by rw [cell_of hb6]; rfl
                  have HT6 := hid (HT5.out.kept HK6.out HWB.out)
                  have cb6 := HT6.out.b
                  have HK7 := hid (HK5.out.join HK6.out (S := []) (fun k hk hlt => by have := HFB.out k hk; omega))
                  clear hb6 cb c0 c1 c2 c3 c4
                  have Q1 := hid (LIn.acked_q HL6.out)
                  have Q2 := hid (LIn.got_q HL6.out)
                  go_wp2_with fail
                  go_quiet (first
                    | (go_at_call 22; exact Calls.quiet_of_same (Q1.out _))
                    | (go_at_call 21; exact Calls.quiet_of_same (Q2.out _)))
                  go_wp2
                  go_ret
                  exact ⟨rfl, HK7.out.drewN' _⟩
                · have hXi : ¬ (12 : Int) < (xs.length : Int) := by omega
                  go_wp2
                  go_cut [10, 11] from 52 to 60 (fun s10 s11 wx => s10 = .int .i64 (xs.length : Nat) ∧ s11 = .int .i64 0 ∧ LIn.Link wx B 12 4 en (lo.drop en) xs.length (xs.take xs.length) ∧ Kept B.all (wr) wx)
                  case first =>
                    go_region_with (go_at_call 14; refine (LIn.in_at (by exact HL5.out.sim ⟨rfl, rfl, rfl, rfl⟩) 4 2 HE1.out.symm HE2.out.symm 0 en hbd (by omega) (by omega) (by omega) ia xs.length ic xs (by exact (hs.old HK5.out (by simp)).kept (S := []) (⟨rfl, rfl, rfl, Nat.le_refl _, fun _ _ _ => rfl⟩) (not_in_nil _)) ho (by exact fun hp k hk hm => by have h1 := hs.lt hp k hk; have h2 := HFB.out k hm; omega)).mono ?_; rintro e' w6 ⟨k1, hk1, rfl, hL6, hK6⟩; have HK6 := hid (hK6.as ⟨rfl, rfl, rfl, rfl⟩ : Kept B.all (wr) w6); obtain rfl : k1 = xs.length := (by simp at hk1; omega); have HL6 := hid (by simpa using hL6 : LIn.Link w6 B 12 4 en (lo.drop en) xs.length (xs.take xs.length)); clear hL6 hk1; clear hK6)
                    all_goals
                      go_wp2_with fail
                      go_meet
                      exact ⟨rfl, rfl, HL6.out, HK6.out⟩
                  case rest =>
                  obtain ⟨hs10, hs11, hL6, hK6⟩ := hcut
                  subst hs10
                  subst hs11
                  have HK6 := hid hK6
                  have HL6 := hid hL6
                  clear hL6
                  clear hK6
                  have hb6 := HK6.out.blk HB5.out HBn.out
                  have d0 : wc.cell? ⟨w.heap.size, 0, none⟩ = some (.int .u64 4) := by rw [cell_of hb6]; rfl
                  have d1 : wc.cell? ⟨w.heap.size, 0 + 1, none⟩ = some (.int .i64 2) := by rw [cell_of hb6]; rfl
                  have d2 : wc.cell? ⟨w.heap.size, 0 + 2, none⟩ = some (.int .u64 ((0 : Nat) : Int)) := by rw [cell_of hb6]; rfl
                  have d3 : wc.cell? ⟨w.heap.size, 0 + 3, none⟩ = some (.slice ia xs.length ic) := by rw [cell_of hb6]; rfl
                  have d4 : wc.cell? ⟨w.heap.size, 0 + 4, none⟩ = some (.int .u64 (en : Int)) := by rw [cell_of hb6]; rfl
                  have HT6 := hid (HT5.out.kept HK6.out HWB.out)
                  have cb6 := HT6.out.b
                  have HK7 := hid (HK5.out.join HK6.out (S := []) (fun k hk hlt => by have := HFB.out k hk; omega))
                  clear hb6 cb c0 c1 c2 c3 c4
                  have Q1 := hid (LIn.acked_q HL6.out)
                  have Q2 := hid (LIn.got_q HL6.out)
                  go_wp2_with fail
                  go_quiet (first
                    | (go_at_call 22; exact Calls.quiet_of_same (Q1.out _))
                    | (go_at_call 21; exact Calls.quiet_of_same (Q2.out _)))
                  go_wp2
                  go_ret
                  exact ⟨rfl, HK7.out.drewN' _⟩
          · have hP2 : ¬ P = 2 := hP2
            have c0 : wr.cell? ⟨w.heap.size, 0, none⟩ = some (.int .u64 4) := by rw [cell_of HBp.out]; rfl
            have c1 : wr.cell? ⟨w.heap.size, 0 + 1, none⟩ = some (.int .i64 P) := by rw [cell_of HBp.out]; rfl
            have c2 : wr.cell? ⟨w.heap.size, 0 + 2, none⟩ = some (.int .u64 (gn : Int)) := by rw [cell_of HBp.out]; rfl
            have c3 : wr.cell? ⟨w.heap.size, 0 + 3, none⟩ = some (.slice ia xs.length ic) := by rw [cell_of HBp.out]; rfl
            have c4 : wr.cell? ⟨w.heap.size, 0 + 4, none⟩ = some (.int .u64 (en : Int)) := by rw [cell_of HBp.out]; rfl
            have cb := HT2.out.b
            go_wp2
            go_cut [10, 11] from 52 to 60 (fun s10 s11 wx => s10 = .int .i64 0 ∧ s11 = .int .i64 9 ∧ Kept [] wr wx)
            case first =>
              go_region_with (go_at_call 14; refine (LIn.in_epoch (by exact HLo.out.sim ⟨rfl, rfl, rfl, rfl⟩) 4 P (by rw [HE1.out, HE2.out]; exact fun h => hP2 h.2) (gn : Int) (en : Int) ia xs.length ic).mono ?_; rintro e' w6 ⟨rfl, hK6⟩; have HK6 := hid (hK6.as ⟨rfl, rfl, rfl, rfl⟩ : Kept [] wr w6); clear hK6)
              all_goals
                go_wp2_with fail
                go_meet
                exact ⟨rfl, rfl, HK6.out⟩
            case rest =>
            obtain ⟨hs10, hs11, hK6⟩ := hcut
            subst hs10
            subst hs11
            have HK6 := hid hK6
            clear hK6
            have hb6 := HK6.out.blk HBp.out (by simp)
            have d0 : wc.cell? ⟨w.heap.size, 0, none⟩ = some (.int .u64 4) := by rw [cell_of hb6]; rfl
            have d1 : wc.cell? ⟨w.heap.size, 0 + 1, none⟩ = some (.int .i64 P) := by rw [cell_of hb6]; rfl
            have HT6 := hid (HT2.out.kept HK6.out (by simp))
            have cb6 := HT6.out.b
            have HL6 := hid (HLo.out.still HK6.out)
            have HK7 := hid (HKw.out.trans HK6.out)
            clear hb6 cb c0 c1 c2 c3 c4
            go_wp2_with fail
            refine (LIn.got_any HL6.out).mono ?_
            rintro e' w7 ⟨rfl, hw7⟩
            subst hw7
            go_wp2_with fail
            refine (LIn.acked_any HL6.out).mono ?_
            rintro e' w7 ⟨rfl, hw7⟩
            subst hw7
            go_wp2
            go_ret
            exact ⟨rfl, HK7.out⟩
        · have hN4 : ¬ N = 4 := hN4
          have c0 : wr.cell? ⟨w.heap.size, 0, none⟩ = some (.int .u64 N) := by rw [cell_of HBp.out]; rfl
          have c1 : wr.cell? ⟨w.heap.size, 0 + 1, none⟩ = some (.int .i64 P) := by rw [cell_of HBp.out]; rfl
          have c2 : wr.cell? ⟨w.heap.size, 0 + 2, none⟩ = some (.int .u64 (gn : Int)) := by rw [cell_of HBp.out]; rfl
          have c3 : wr.cell? ⟨w.heap.size, 0 + 3, none⟩ = some (.slice ia xs.length ic) := by rw [cell_of HBp.out]; rfl
          have c4 : wr.cell? ⟨w.heap.size, 0 + 4, none⟩ = some (.int .u64 (en : Int)) := by rw [cell_of HBp.out]; rfl
          have cb := HT2.out.b
          go_wp2
          go_cut [10, 11] from 52 to 60 (fun s10 s11 wx => s10 = .int .i64 0 ∧ s11 = .int .i64 9 ∧ Kept [] wr wx)
          case first =>
            go_region_with (go_at_call 14; refine (LIn.in_epoch (by exact HLo.out.sim ⟨rfl, rfl, rfl, rfl⟩) N P (by rw [HE1.out, HE2.out]; exact fun h => hN4 h.1) (gn : Int) (en : Int) ia xs.length ic).mono ?_; rintro e' w6 ⟨rfl, hK6⟩; have HK6 := hid (hK6.as ⟨rfl, rfl, rfl, rfl⟩ : Kept [] wr w6); clear hK6)
            all_goals
              go_wp2_with fail
              go_meet
              exact ⟨rfl, rfl, HK6.out⟩
          case rest =>
          obtain ⟨hs10, hs11, hK6⟩ := hcut
          subst hs10
          subst hs11
          have HK6 := hid hK6
          clear hK6
          have hb6 := HK6.out.blk HBp.out (by simp)
          have d0 : wc.cell? ⟨w.heap.size, 0, none⟩ = some (.int .u64 N) := by rw [cell_of hb6]; rfl
          have d1 : wc.cell? ⟨w.heap.size, 0 + 1, none⟩ = some (.int .i64 P) := by rw [cell_of hb6]; rfl
          have HT6 := hid (HT2.out.kept HK6.out (by simp))
          have cb6 := HT6.out.b
          have HL6 := hid (HLo.out.still HK6.out)
          have HK7 := hid (HKw.out.trans HK6.out)
          clear hb6 cb c0 c1 c2 c3 c4
          go_wp2_with fail
          refine (LIn.got_any HL6.out).mono ?_
          rintro e' w7 ⟨rfl, hw7⟩
          subst hw7
          go_wp2_with fail
          refine (LIn.acked_any HL6.out).mono ?_
          rintro e' w7 ⟨rfl, hw7⟩
          subst hw7
          go_wp2
          go_ret
          exact ⟨rfl, HK7.out⟩
      · have f0 : wr.cell? ⟨w.heap.size, 0, none⟩ = some (.int .u64 N) := by rw [cell_of HBp.out]; rfl
        have f1 : wr.cell? ⟨w.heap.size, 0 + 1, none⟩ = some (.int .i64 P) := by rw [cell_of HBp.out]; rfl
        have g0 : wr.frozen? ⟨w.heap.size, 0, none⟩ = false := frozen_of HBp.out
        have g1 : wr.frozen? ⟨w.heap.size, 0 + 1, none⟩ = false := frozen_of HBp.out
        have hset : Kept [w.heap.size] wr ((wr.setCell ⟨w.heap.size, 0, none⟩ (.int .u64 4)).setCell ⟨w.heap.size, 0 + 1, none⟩ (.int .i64 2)) := ((Kept.refl _ _).setCell (by simp) _).setCell (by simp) _
        have HL5 := hid (HLo.out.kept hset (fun k hk hm => by simp at hm; subst hm; exact HBn.out hk))
        have HT5 := hid (HT2.out.kept hset (fun hm => by simp at hm; exact HWn.out hm))
        have HB5 := hid ((blk_set (blk_set HBp.out (o := 0) (.int .u64 4)) (o := 0 + 1) (.int .i64 2)).trans rfl : ((wr.setCell ⟨w.heap.size, 0, none⟩ (.int .u64 4)).setCell ⟨w.heap.size, 0 + 1, none⟩ (.int .i64 2)).heap[w.heap.size]? = some (.cells #[.int .u64 4, .int .i64 2, .int .u64 (gn : Int), .slice ia xs.length ic, .int .u64 (en : Int)] 45 (0, 0)))
        have HK5 := hid (HKw.out.join hset (S := []) (fun k hk hlt => by simp at hk; omega))
        clear hset
        have c0 : ((wr.setCell ⟨w.heap.size, 0, none⟩ (.int .u64 4)).setCell ⟨w.heap.size, 0 + 1, none⟩ (.int .i64 2)).cell? ⟨w.heap.size, 0, none⟩ = some (.int .u64 4) := by rw [cell_of HB5.out]; rfl
        have c1 : ((wr.setCell ⟨w.heap.size, 0, none⟩ (.int .u64 4)).setCell ⟨w.heap.size, 0 + 1, none⟩ (.int .i64 2)).cell? ⟨w.heap.size, 0 + 1, none⟩ = some (.int .i64 2) := by rw [cell_of HB5.out]; rfl
        have c2 : ((wr.setCell ⟨w.heap.size, 0, none⟩ (.int .u64 4)).setCell ⟨w.heap.size, 0 + 1, none⟩ (.int .i64 2)).cell? ⟨w.heap.size, 0 + 2, none⟩ = some (.int .u64 (gn : Int)) := by rw [cell_of HB5.out]; rfl
        have c3 : ((wr.setCell ⟨w.heap.size, 0, none⟩ (.int .u64 4)).setCell ⟨w.heap.size, 0 + 1, none⟩ (.int .i64 2)).cell? ⟨w.heap.size, 0 + 3, none⟩ = some (.slice ia xs.length ic) := by rw [cell_of HB5.out]; rfl
        have c4 : ((wr.setCell ⟨w.heap.size, 0, none⟩ (.int .u64 4)).setCell ⟨w.heap.size, 0 + 1, none⟩ (.int .i64 2)).cell? ⟨w.heap.size, 0 + 4, none⟩ = some (.int .u64 (en : Int)) := by rw [cell_of HB5.out]; rfl
        have cb := HT5.out.b
        have hsm : min lo.length 4 = S := by omega
        by_cases hE : S < en
        · have hEi : ((S : Nat) : Int) < (en : Int) := by omega
          have hbd : ((min lo.length 4 : Nat) : Int) < (en : Int) - ((0 : Nat) : Int) := by omega
          go_wp2
          go_cut [10, 11] from 52 to 60 (fun s10 s11 wx => s10 = .int .i64 0 ∧ s11 = .int .i64 1 ∧ Kept [] ((wr.setCell ⟨w.heap.size, 0, none⟩ (.int .u64 4)).setCell ⟨w.heap.size, 0 + 1, none⟩ (.int .i64 2)) wx)
          case first =>
            go_region_with (go_at_call 14; refine (LIn.in_bad_at (by exact HL5.out.sim ⟨rfl, rfl, rfl, rfl⟩) 4 2 HE1.out.symm HE2.out.symm (gn : Int) (en : Int) (by omega) (by omega) hbd ia xs.length ic).mono ?_; rintro e' w6 ⟨rfl, hK6⟩; have HK6 := hid (hK6.as ⟨rfl, rfl, rfl, rfl⟩ : Kept [] ((wr.setCell ⟨w.heap.size, 0, none⟩ (.int .u64 4)).setCell ⟨w.heap.size, 0 + 1, none⟩ (.int .i64 2)) w6); clear hK6)
            all_goals
              go_wp2_with fail
              go_meet
              exact ⟨rfl, rfl, HK6.out⟩
          case rest =>
          obtain ⟨hs10, hs11, hK6⟩ := hcut
          subst hs10
          subst hs11
          have HK6 := hid hK6
          clear hK6
          have hb6 := HK6.out.blk HB5.out (by simp)
          have d0 : wc.cell? ⟨w.heap.size, 0, none⟩ = some (.int .u64 4) := by rw [cell_of hb6]; rfl
          have d1 : wc.cell? ⟨w.heap.size, 0 + 1, none⟩ = some (.int .i64 2) := by rw [cell_of hb6]; rfl
          have d2 : wc.cell? ⟨w.heap.size, 0 + 2, none⟩ = some (.int .u64 (gn : Int)) := by rw [cell_of hb6]; rfl
          have d3 : wc.cell? ⟨w.heap.size, 0 + 3, none⟩ = some (.slice ia xs.length ic) := by rw [cell_of hb6]; rfl
          have d4 : wc.cell? ⟨w.heap.size, 0 + 4, none⟩ = some (.int .u64 (en : Int)) := by rw [cell_of hb6]; rfl
          have HT6 := hid (HT5.out.kept HK6.out (by simp))
          have cb6 := HT6.out.b
          have HK7 := hid (HK5.out.join HK6.out (S := []) (by simp))
          clear hb6 cb c0 c1 c2 c3 c4
          have HL6 := hid (HL5.out.still HK6.out)
          go_wp2_with fail
          refine (LIn.got_any HL6.out).mono ?_
          rintro e' w7 ⟨rfl, hw7⟩
          subst hw7
          go_wp2_with fail
          refine (LIn.acked_any HL6.out).mono ?_
          rintro e' w7 ⟨rfl, hw7⟩
          subst hw7
          go_wp2
          go_ret
          exact ⟨rfl, HK7.out⟩
        · have hEi : ¬ ((S : Nat) : Int) < (en : Int) := by omega
          have hbd : en ≤ 0 + min lo.length 4 := by omega
          by_cases hG : 0 < gn
          · have hGi : (0 : Int) < (gn : Int) := by omega
            go_wp2
            go_cut [10, 11] from 52 to 60 (fun s10 s11 wx => s10 = .int .i64 0 ∧ s11 = .int .i64 1 ∧ LIn.Link wx B 12 4 en (lo.drop en) 0 [] ∧ Kept B.all ((wr.setCell ⟨w.heap.size, 0, none⟩ (.int .u64 4)).setCell ⟨w.heap.size, 0 + 1, none⟩ (.int .i64 2)) wx)
            case first =>
              go_region_with (go_at_call 14; refine (LIn.in_gap_at (by exact HL5.out.sim ⟨rfl, rfl, rfl, rfl⟩) 4 2 HE1.out.symm HE2.out.symm (gn : Int) en hbd (by omega) (by omega) ia xs.length ic).mono ?_; rintro e' w6 ⟨rfl, hL6, hK6⟩; have HK6 := hid (hK6.as ⟨rfl, rfl, rfl, rfl⟩ : Kept B.all ((wr.setCell ⟨w.heap.size, 0, none⟩ (.int .u64 4)).setCell ⟨w.heap.size, 0 + 1, none⟩ (.int .i64 2)) w6); have HL6 := hid (by simpa using hL6 : LIn.Link w6 B 12 4 en (lo.drop en) 0 []); clear hL6; clear hK6)
              all_goals
                go_wp2_with fail
                go_meet
                exact ⟨rfl, rfl, HL6.out, HK6.out⟩
            case rest =>
            obtain ⟨hs10, hs11, hL6, hK6⟩ := hcut
            subst hs10
            subst hs11
            have HK6 := hid hK6
            have HL6 := hid hL6
            clear hL6
            clear hK6
            have hb6 := HK6.out.blk HB5.out HBn.out
            have d0 : wc.cell? ⟨w.heap.size, 0, none⟩ = some (.int .u64 4) := by rw [cell_of hb6]; rfl
            have d1 : wc.cell? ⟨w.heap.size, 0 + 1, none⟩ = some (.int .i64 2) := by rw [cell_of hb6]; rfl
            have d2 : wc.cell? ⟨w.heap.size, 0 + 2, none⟩ = some (.int .u64 (gn : Int)) := by rw [cell_of hb6]; rfl
            have d3 : wc.cell? ⟨w.heap.size, 0 + 3, none⟩ = some (.slice ia xs.length ic) := by rw [cell_of hb6]; rfl
            have d4 : wc.cell? ⟨w.heap.size, 0 + 4, none⟩ = some (.int .u64 (en : Int)) := by rw [cell_of hb6]; rfl
            have HT6 := hid (HT5.out.kept HK6.out HWB.out)
            have cb6 := HT6.out.b
            have HK7 := hid (HK5.out.join HK6.out (S := []) (fun k hk hlt => by have := HFB.out k hk; omega))
            clear hb6 cb c0 c1 c2 c3 c4
            have Q1 := hid (LIn.acked_q HL6.out)
            go_wp2_with fail
            go_quiet ((go_at_call 22; exact Calls.quiet_of_same (Q1.out _)))
            go_wp2
            go_ret
            exact ⟨rfl, HK7.out.drewN' _⟩
          · obtain rfl : gn = 0 := by omega
            by_cases hX : 12 < xs.length
            · have hXi : (12 : Int) < (xs.length : Int) := by omega
              go_wp2
              go_cut [10, 11] from 52 to 60 (fun s10 s11 wx => s10 = .int .i64 12 ∧ s11 = .int .i64 0 ∧ LIn.Link wx B 12 4 en (lo.drop en) 12 (xs.take 12) ∧ Kept B.all ((wr.setCell ⟨w.heap.size, 0, none⟩ (.int .u64 4)).setCell ⟨w.heap.size, 0 + 1, none⟩ (.int .i64 2)) wx)
              case first =>
                go_region_with (go_at_call 14; refine (LIn.in_at (by exact HL5.out.sim ⟨rfl, rfl, rfl, rfl⟩) 4 2 HE1.out.symm HE2.out.symm 0 en hbd (by omega) (by omega) (by omega) ia xs.length ic xs (by exact (hs.old HK5.out (by simp)).kept (S := []) (⟨rfl, rfl, rfl, Nat.le_refl _, fun _ _ _ => rfl⟩) (not_in_nil _)) ho (by exact fun hp k hk hm => by have h1 := hs.lt hp k hk; have h2 := HFB.out k hm; omega)).mono ?_; rintro e' w6 ⟨k1, hk1, rfl, hL6, hK6⟩; have HK6 := hid (hK6.as ⟨rfl, rfl, rfl, rfl⟩ : Kept B.all ((wr.setCell ⟨w.heap.size, 0, none⟩ (.int .u64 4)).setCell ⟨w.heap.size, 0 + 1, none⟩ (.int .i64 2)) w6); obtain rfl : k1 = 12 := (by simp at hk1; omega); have HL6 := hid (by simpa using hL6 : LIn.Link w6 B 12 4 en (lo.drop en) 12 (xs.take 12)); clear hL6 hk1; clear hK6)
                all_goals
                  go_wp2_with fail
                  go_meet
                  exact ⟨rfl, rfl, HL6.out, HK6.out⟩
              case rest =>
              obtain ⟨hs10, hs11, hL6, hK6⟩ := hcut
              subst hs10
              subst hs11
              have HK6 := hid hK6
              have HL6 := hid hL6
              clear hL6
              clear hK6
              have hb6 := HK6.out.blk HB5.out HBn.out
              have d0 : wc.cell? ⟨w.heap.size, 0, none⟩ = some (.int .u64 4) := by rw [cell_of hb6]; rfl
              have d1 : wc.cell? ⟨w.heap.size, 0 + 1, none⟩ = some (.int .i64 2) := by rw [cell_of hb6]; rfl
              have d2 : wc.cell? ⟨w.heap.size, 0 + 2, none⟩ = some (.int .u64 ((0 : Nat) : Int)) := by rw [cell_of hb6]; rfl
              have d3 : wc.cell? ⟨w.heap.size, 0 + 3, none⟩ = some (.slice ia xs.length ic) := by rw [cell_of hb6]; rfl
              have d4 : wc.cell? ⟨w.heap.size, 0 + 4, none⟩ = some (.int .u64 (en : Int)) := by rw [cell_of hb6]; rfl
              have HT6 := hid (HT5.out.kept HK6.out HWB.out)
              have cb6 := HT6.out.b
              have HK7 := hid (HK5.out.join HK6.out (S := []) (fun k hk hlt => by have := HFB.out k hk; omega))
              clear hb6 cb c0 c1 c2 c3 c4
              have Q1 := hid (LIn.acked_q HL6.out)
              have Q2 := hid (LIn.got_q HL6.out)
              go_wp2_with fail
              go_quiet (first
                | (go_at_call 22; exact Calls.quiet_of_same (Q1.out _))
                | (go_at_call 21; exact Calls.quiet_of_same (Q2.out _)))
              go_wp2
              go_ret
              exact ⟨rfl, HK7.out.drewN' _⟩
            · have hXi : ¬ (12 : Int) < (xs.length : Int) := by omega
              go_wp2
              go_cut [10, 11] from 52 to 60 (fun s10 s11 wx => s10 = .int .i64 (xs.length : Nat) ∧ s11 = .int .i64 0 ∧ LIn.Link wx B 12 4 en (lo.drop en) xs.length (xs.take xs.length) ∧ Kept B.all ((wr.setCell ⟨w.heap.size, 0, none⟩ (.int .u64 4)).setCell ⟨w.heap.size, 0 + 1, none⟩ (.int .i64 2)) wx)
              case first =>
                go_region_with (go_at_call 14; refine (LIn.in_at (by exact HL5.out.sim ⟨rfl, rfl, rfl, rfl⟩) 4 2 HE1.out.symm HE2.out.symm 0 en hbd (by omega) (by omega) (by omega) ia xs.length ic xs (by exact (hs.old HK5.out (by simp)).kept (S := []) (⟨rfl, rfl, rfl, Nat.le_refl _, fun _ _ _ => rfl⟩) (not_in_nil _)) ho (by exact fun hp k hk hm => by have h1 := hs.lt hp k hk; have h2 := HFB.out k hm; omega)).mono ?_; rintro e' w6 ⟨k1, hk1, rfl, hL6, hK6⟩; have HK6 := hid (hK6.as ⟨rfl, rfl, rfl, rfl⟩ : Kept B.all ((wr.setCell ⟨w.heap.size, 0, none⟩ (.int .u64 4)).setCell ⟨w.heap.size, 0 + 1, none⟩ (.int .i64 2)) w6); obtain rfl : k1 = xs.length := (by simp at hk1; omega); have HL6 := hid (by simpa using hL6 : LIn.Link w6 B 12 4 en (lo.drop en) xs.length (xs.take xs.length)); clear hL6 hk1; clear hK6)
                all_goals
                  go_wp2_with fail
                  go_meet
                  exact ⟨rfl, rfl, HL6.out, HK6.out⟩
              case rest =>
              obtain ⟨hs10, hs11, hL6, hK6⟩ := hcut
              subst hs10
              subst hs11
              have HK6 := hid hK6
              have HL6 := hid hL6
              clear hL6
              clear hK6
              have hb6 := HK6.out.blk HB5.out HBn.out
              have d0 : wc.cell? ⟨w.heap.size, 0, none⟩ = some (.int .u64 4) := by rw [cell_of hb6]; rfl
              have d1 : wc.cell? ⟨w.heap.size, 0 + 1, none⟩ = some (.int .i64 2) := by rw [cell_of hb6]; rfl
              have d2 : wc.cell? ⟨w.heap.size, 0 + 2, none⟩ = some (.int .u64 ((0 : Nat) : Int)) := by rw [cell_of hb6]; rfl
              have d3 : wc.cell? ⟨w.heap.size, 0 + 3, none⟩ = some (.slice ia xs.length ic) := by rw [cell_of hb6]; rfl
              have d4 : wc.cell? ⟨w.heap.size, 0 + 4, none⟩ = some (.int .u64 (en : Int)) := by rw [cell_of hb6]; rfl
              have HT6 := hid (HT5.out.kept HK6.out HWB.out)
              have cb6 := HT6.out.b
              have HK7 := hid (HK5.out.join HK6.out (S := []) (fun k hk hlt => by have := HFB.out k hk; omega))
              clear hb6 cb c0 c1 c2 c3 c4
              have Q1 := hid (LIn.acked_q HL6.out)
              have Q2 := hid (LIn.got_q HL6.out)
              go_wp2_with fail
              go_quiet (first
                | (go_at_call 22; exact Calls.quiet_of_same (Q1.out _))
                | (go_at_call 21; exact Calls.quiet_of_same (Q2.out _)))
              go_wp2
              go_ret
              exact ⟨rfl, HK7.out.drewN' _⟩
end Go.Proofs.Ytagemhmjpfldoaa.LinkIns
