/- WheelCancels answers true: the walk. -/
import Derived.Test.YtdnaeebehkplpaaWheelErrs
import Derived.Test.YtdnaeebehkplpaaArgs
namespace Go.Proofs.Ytdnaeebehkplpaa
namespace WheelCancels
open Go.RowKit
set_option linter.unusedVariables false
set_option linter.unusedSimpArgs false

/-- Of the first c timers those that P takes. -/
def LC (now : Nat) (d : Nat → Nat) (c : Nat) (P : Nat → Bool) : List Tm := ((List.range c).filter P).map fun (j : Nat) => ⟨now + d j, (j : Int), j + 1⟩
theorem LC_mem {now : Nat} {d : Nat → Nat} {c : Nat} {P : Nat → Bool} {t : Tm} (h : t ∈ LC now d c P) : ∃ j, j < c ∧ P j = true ∧ t = ⟨now + d j, (j : Int), j + 1⟩ := by
  unfold LC at h
  obtain ⟨j, hj, rfl⟩ := List.mem_map.1 h
  obtain ⟨h1, h2⟩ := List.mem_filter.1 hj
  exact ⟨j, List.mem_range.1 h1, h2, rfl⟩
theorem LC_filter (now : Nat) (d : Nat → Nat) (c : Nat) (P : Nat → Bool) (Q : Tm → Bool) (R : Nat → Bool) (h : ∀ j, j < c → P j = true → Q ⟨now + d j, (j : Int), j + 1⟩ = R j) : (LC now d c P).filter Q = LC now d c (fun j => P j && R j) := by
  unfold LC
  rw [List.filter_map, List.filter_filter]
  congr 1
  refine List.filter_congr fun j hj => ?_
  have hj := List.mem_range.1 hj
  cases hP : P j
  · simp [hP]
  · have := h j hj hP
    simp only [Function.comp, hP, this, Bool.and_true, Bool.true_and]
theorem LC_congr {now : Nat} {d : Nat → Nat} {c : Nat} {P Q : Nat → Bool} (h : ∀ j, j < c → P j = Q j) : LC now d c P = LC now d c Q := by
  unfold LC
  rw [List.filter_congr fun j hj => h j (List.mem_range.1 hj)]
theorem LC_succ (now : Nat) (d : Nat → Nat) (c : Nat) : less (LC now d c (fun _ => true)) (c : Int) ++ [⟨now + d c, (c : Int), c + 1⟩] = LC now d (c + 1) (fun _ => true) := by
  rw [less_none (by intro t ht; obtain ⟨j, hj, _, rfl⟩ := LC_mem ht; simp; omega)]
  unfold LC
  rw [List.range_succ, List.filter_append, List.map_append]
  rfl
theorem LC_in {now : Nat} {d : Nat → Nat} {c : Nat} {P : Nat → Bool} {j : Nat} (hj : j < c) (hP : P j = true) : (⟨now + d j, (j : Int), j + 1⟩ : Tm) ∈ LC now d c P := List.mem_map.2 ⟨j, List.mem_filter.2 ⟨List.mem_range.2 hj, hP⟩, rfl⟩
/-- Is bit i of the mask set? -/
def gM (M i : Nat) : Bool := bits BinOp.and IntKind.u32 ((M : Int) / 2 ^ i) 1 == 1
def PC (g : Nat → Bool) (i j : Nat) : Bool := !(decide (j < i) && g j)
def PD (g : Nat → Bool) (d : Nat → Nat) (m j : Nat) : Bool := !g j && decide (m < d j)
def left (g : Nat → Bool) (i : Nat) : Nat := ((List.range i).filter fun j => !g j).length
theorem left_le (g : Nat → Bool) (i : Nat) : left g i ≤ i := by
  unfold left
  exact Nat.le_trans (List.length_filter_le _ _) (by simp)
theorem left_succ (g : Nat → Bool) (i : Nat) : left g (i + 1) = left g i + if g i = true then 0 else 1 := by
  unfold left
  rw [List.range_succ, List.filter_append, List.length_append]
  cases h : g i <;> simp [h]
theorem nums {c : Nat} {xs : List Value} (hc : xs.length = c) (ho : ∀ x ∈ xs, ∃ n : Int, x = .int .u16 n ∧ (Lit.int .u16 n).wf = true) : ∃ y : Nat → Nat, ∀ j (h : j < xs.length), xs[j] = .int .u16 (y j : Int) ∧ y j ≤ 65535 := by
  refine ⟨fun j => match xs[j]? with | some (.int _ n) => n.toNat | _ => 0, fun j h => ?_⟩
  obtain ⟨n, hn, wn⟩ := ho _ (List.getElem_mem h)
  obtain ⟨u, v⟩ := bounds_u16 wn
  simp only [List.getElem?_eq_getElem h, hn]
  refine ⟨by congr 1; omega, by omega⟩
set_option maxRecDepth 100000 in
set_option maxHeartbeats 4000000 in
theorem walk (w : World) (now0 : Int) (hn0 : 0 ≤ now0 ∧ now0 ≤ 18446744073709551615) (a : Option Addr) (n cap : Nat) (xs : List Value) (hs : Sl w (.slice a n cap) xs) (ho : ∀ x ∈ xs, ∃ n : Int, x = .int .u16 n ∧ (Lit.int .u16 n).wf = true) (m0 : Int) (hm0 : 0 ≤ m0 ∧ m0 ≤ 4294967295) :
    Calls Try.prog 5 #[.int .u64 now0, .slice a n cap, .int .u32 m0] w fun e w' => e = .returned (.bool true) ∧ Kept [] w w' := by
  obtain ⟨now, rfl⟩ : ∃ now : Nat, now0 = (now : Int) := ⟨now0.toNat, by omega⟩
  obtain ⟨M, rfl⟩ : ∃ M : Nat, m0 = (M : Int) := ⟨m0.toNat, by omega⟩
  obtain ⟨h01, h02⟩ := hn0
  obtain ⟨hm1, hm2⟩ := hm0
  obtain ⟨hn, hcap, hmax⟩ := hs.len
  subst hn
  unfold maxLen at hmax
  obtain ⟨y, hy⟩ := nums rfl ho
  clear ho
  by_cases hbad : 576460752303423488 < now
  · have hbad' : (576460752303423488 : Int) < (now : Int) := by omega
    go_enter Try.func5, Try.ntmps5
    go_wp2_with fail
    refine (awake_true w).mono ?_
    rintro e w1 ⟨rfl, hK1⟩
    go_wp2_with fail
    refine (awake_true w1).mono ?_
    rintro e w2 ⟨rfl, hK2⟩
    go_wp2_with fail
    go_ret
    exact ⟨rfl, hK1.trans hK2⟩
  have hl2 : ¬ (576460752303423488 : Int) < (now : Int) := by omega
  by_cases hbad2 : 30 < xs.length
  · have hbad' : (30 : Int) < (xs.length : Int) := by omega
    go_enter Try.func5, Try.ntmps5
    go_wp2_with fail
    refine (awake_true w).mono ?_
    rintro e w1 ⟨rfl, hK1⟩
    go_wp2_with fail
    refine (awake_true w1).mono ?_
    rintro e w2 ⟨rfl, hK2⟩
    go_wp2_with fail
    go_ret
    exact ⟨rfl, hK1.trans hK2⟩
  have hl3 : ¬ (30 : Int) < (xs.length : Int) := by omega
  have HY := hid hy
  clear hy
  obtain ⟨d, hd⟩ : ∃ d : Nat → Nat, d = fun j => 1 + y j % 700 := ⟨_, rfl⟩
  have HD := hid hd
  clear hd
  go_enter Try.func5, Try.ntmps5
  go_wp2_with fail
  refine (awake_true w).mono ?_
  rintro e w1 ⟨rfl, hK1⟩
  go_wp2_with fail
  refine (wr_new now w1 (by omega)).mono ?_
  rintro e w2 ⟨b, B, rfl, hR, hK2, hB⟩
  have hs1 := hK1.size
  have HK := hid (hK1.trans hK2)
  have HB := hid (fun k hk => by have := hB k hk; omega : ∀ k, B k → w.heap.size ≤ k)
  have HR := hid hR
  clear hK1 hK2 hB hR hs1
  go_wp2_with fail
  go_loopw [9] (fun iv wr => ∃ (i : Nat) (B : Nat → Prop), i ≤ xs.length ∧ iv = .int .i64 (i : Int) ∧ WR wr b B now i (LC now d i (fun _ => true)) ∧ Kept [] w wr ∧ (∀ k, B k → w.heap.size ≤ k)) (fun iv _ => xs.length - (intOf iv).toNat)
  case atStart => exact ⟨0, B, by omega, rfl, HR.out, HK.out, HB.out⟩
  case round =>
    clear HR HK HB
    obtain ⟨i, B, hi, rfl, hR, hK, hB⟩ := hrel
    by_cases hlt : i < xs.length
    · have hlti : (i : Int) < (xs.length : Int) := by omega
      obtain ⟨g, off, rfl, hc⟩ := (hs.old hK (by simp)).cell hlt
      obtain ⟨hy1, hy2⟩ := HY.out i hlt
      rw [hy1] at hc
      have hdi : d i = 1 + y i % 700 := by rw [HD.out]
      have hy2i : (y i : Int) ≤ 65535 := by omega
      obtain ⟨Y, hY⟩ : ∃ Y, Y = y i := ⟨_, rfl⟩
      rw [← hY] at hdi hc hy2i
      have hdl : d i ≤ 700 := by omega
      have HDI := hid hdi
      have HR := hid hR
      have HK := hid hK
      have HB := hid hB
      clear hR hK hB hy1 hy2 hY hdi
      go_wp2_with fail
      have hdi := HDI.out
      have harm := wr_arm HR.out (i : Int) (wf_int (by omega) (by omega)) (d i) (by omega) (by omega) (by omega)
      rw [show (((d i : Nat) : Int)) = 1 + (Y : Int) % 700 by omega] at harm
      clear hdi
      refine harm.mono ?_
      clear harm
      rintro e w3 ⟨rfl, B3, hR3, hS⟩
      obtain ⟨hK3, hB3⟩ := hS.base HK.out HB.out
      rw [LC_succ] at hR3
      have HR3 := hid hR3
      have HK3 := hid hK3
      have HB3 := hid hB3
      clear hR3 hK3 hB3 hS HR HK HB
      go_wp2_with fail
      go_roundw
      case rel => exact ⟨i + 1, B3, by omega, by go_num, HR3.out, HK3.out, HB3.out⟩
      case measure => simp [intOf]; omega
    · obtain rfl : i = xs.length := by omega
      have HR := hid hR
      have HK := hid hK
      have HB := hid hB
      clear hR hK hB
      go_wp2_with fail
      obtain ⟨wo, rfl⟩ : ∃ wo : World, wo = wr := ⟨_, rfl⟩
      go_loopw [10, 11] (fun lv iv wr => ∃ (i : Nat) (B : Nat → Prop) (q : Nat), i ≤ xs.length ∧ q = left (gM M) i ∧ iv = .int .i64 (i : Int) ∧ lv = .int .i64 (q : Int) ∧ WR wr b B now xs.length (LC now d xs.length (PC (gM M) i)) ∧ Kept [] w wr ∧ (∀ k, B k → w.heap.size ≤ k)) (fun _ iv _ => xs.length - (intOf iv).toNat)
      case atStart => exact ⟨0, B, 0, by omega, rfl, rfl, rfl, by rw [LC_congr (Q := fun _ => true) (fun j _ => by simp [PC])]; exact HR.out, HK.out, HB.out⟩
      case round =>
        clear HR HK HB
        obtain ⟨i, B, q, hi, hq, rfl, rfl, hR, hK, hB⟩ := hrel
        have hq30 := left_le (gM M) i
        rw [← hq] at hq30
        have HQ := hid hq
        have HR := hid hR
        have HK := hid hK
        have HB := hid hB
        clear hR hK hB hq
        by_cases hlt : i < xs.length
        · have hlti : (i : Int) < (xs.length : Int) := by omega
          by_cases hg : gM M i = true
          · have hgb : (bits BinOp.and IntKind.u32 ((M : Int) / 2 ^ i) 1 == 1) = true := hg
            have HG := hid hg
            clear hg
            go_wp2_with fail
            refine (wr_cancel HR.out (i : Int) (wf_int (by omega) (by omega)) ⟨⟨now + d i, (i : Int), i + 1⟩, LC_in hlt (by simp [PC]), rfl⟩).mono ?_
            rintro e w3 ⟨rfl, hR3, hS⟩
            obtain ⟨hK3, hB3⟩ := hS.base HK.out HB.out
            have hl : less (LC now d xs.length (PC (gM M) i)) (i : Int) = LC now d xs.length (PC (gM M) (i + 1)) := by
              refine (LC_filter now d _ _ _ (fun j => decide (j ≠ i)) (fun j _ _ => by simp; omega)).trans (LC_congr fun j hj => ?_)
              unfold PC
              by_cases e : j = i
              · subst e; simp [HG.out]
              · by_cases e2 : j < i
                · simp [e, e2, show j < i + 1 by omega]
                · simp [e, e2, show ¬ j < i + 1 by omega]
            rw [hl] at hR3
            have hno : ∀ t ∈ LC now d xs.length (PC (gM M) (i + 1)), t.id ≠ (i : Int) := fun t ht he => by
              obtain ⟨j, hj, hP, rfl⟩ := LC_mem ht
              have he2 : (j : Int) = (i : Int) := he
              obtain rfl : j = i := by omega
              simp [PC, HG.out] at hP
            have HNO := hid hno
            have HR3 := hid hR3
            have HK3 := hid hK3
            have HB3 := hid hB3
            clear hR3 hK3 hB3 hS HR HK hl hno
            go_wp2_with fail
            refine (wr_cancel_none HR3.out (i : Int) (wf_int (by omega) (by omega)) HNO.out).mono ?_
            rintro e w4 ⟨rfl, rfl⟩
            go_wp2_with fail
            go_roundw
            case rel => exact ⟨i + 1, B, q, by omega, by rw [HQ.out, left_succ, HG.out]; rfl, by go_num, by go_num, HR3.out, HK3.out, HB3.out⟩
            case measure => simp [intOf]; omega
          · have hgb : (bits BinOp.and IntKind.u32 ((M : Int) / 2 ^ i) 1 == 1) = false := by simpa [gM] using hg
            have hg : gM M i = false := by simpa using hg
            have HG := hid hg
            have hqi : (q : Int) ≤ 30 := by omega
            clear hg
            go_wp2_with fail
            go_roundw
            case rel =>
              have hl : LC now d xs.length (PC (gM M) i) = LC now d xs.length (PC (gM M) (i + 1)) := LC_congr fun j hj => by
                unfold PC
                by_cases e : j = i
                · subst e; simp [HG.out]
                · by_cases e2 : j < i
                  · simp [e2, show j < i + 1 by omega]
                  · simp [e2, show ¬ j < i + 1 by omega]
              exact ⟨i + 1, B, q + 1, by omega, by rw [HQ.out, left_succ, HG.out]; rfl, by go_num, by go_num, by rw [← hl]; exact HR.out, HK.out, HB.out⟩
            case measure => simp [intOf]; omega
        · obtain rfl : i = xs.length := by omega
          have hl : LC now d xs.length (PC (gM M) xs.length) = LC now d xs.length (PD (gM M) d 0) := LC_congr fun j hj => by
            have : 0 < d j := by rw [HD.out]; show 0 < 1 + y j % 700; omega
            simp [PC, PD, hj, this]
          have hlen : (LC now d xs.length (PD (gM M) d 0)).length = q := by
            rw [← hl, HQ.out]
            unfold LC left
            rw [List.length_map, List.filter_congr (q := fun j => !gM M j) (fun j hj => by have := List.mem_range.1 hj; simp [PC, this])]
          have HL := hid hl
          have HLEN := hid hlen
          have hlen2 : ((LC now d xs.length (PD (gM M) d 0)).length : Int) = (q : Int) := by omega
          clear hl hlen hlen2
          go_wp2_with fail
          refine (wr_len HR.out).mono ?_
          rintro e w4 ⟨rfl, rfl⟩
          rw [HL.out, HLEN.out]
          have HR0 := hid (by rw [← HL.out]; exact HR.out : WR wr b B now xs.length (LC now d xs.length (PD (gM M) d 0)))
          clear HR
          go_wp2_with fail
          obtain ⟨wo, rfl⟩ : ∃ wo : World, wo = wr := ⟨_, rfl⟩
          go_loopw [10, 12, 13, 14, 15] (fun lv tv u1 u2 u3 wr => ∃ (m : Nat) (B : Nat → Prop) (q : Nat), m ≤ 700 ∧ (LC now d xs.length (PD (gM M) d m)).length = q ∧ q ≤ 30 ∧ tv = .int .u64 ((m : Int) + 1) ∧ lv = .int .i64 (q : Int) ∧ WR wr b B (now + m) xs.length (LC now d xs.length (PD (gM M) d m)) ∧ Kept [] w wr ∧ (∀ k, B k → w.heap.size ≤ k)) (fun _ tv _ _ _ _ => 701 - (intOf tv).toNat)
          case atStart => exact ⟨0, B, q, by omega, HLEN.out, by omega, rfl, rfl, HR0.out, HK.out, HB.out⟩
          case round =>
            clear HR0 HK HB HLEN HL
            obtain ⟨m, B, q, hm, hq, hq30, rfl, rfl, hR, hK, hB⟩ := hrel
            have HQ := hid hq
            have HR := hid hR
            have HK := hid hK
            have HB := hid hB
            clear hR hK hB hq
            have hmi : (m : Int) ≤ 700 := by omega
            by_cases hlt : m < 700
            · have hlti : (m : Int) + 1 ≤ 700 := by omega
              go_wp2_with fail
              refine (wr_tick HR.out (by omega)).mono ?_
              rintro e w4 ⟨v, B4, rfl, hO4, hA4, hR4, hS⟩
              obtain ⟨hK4, hB4⟩ := hS.base HK.out HB.out
              have hsum := dues_late (LC now d xs.length (PD (gM M) d m)) (now + m + 1)
              rw [HQ.out] at hsum
              have hdu : dues (LC now d xs.length (PD (gM M) d m)) (now + m + 1) = LC now d xs.length (fun j => PD (gM M) d m j && decide (d j = m + 1)) := LC_filter now d _ _ _ _ (fun j _ _ => by simp; omega)
              have hla : late (LC now d xs.length (PD (gM M) d m)) (now + m + 1) = LC now d xs.length (PD (gM M) d (m + 1)) := by
                refine (LC_filter now d _ _ _ (fun j => decide (d j ≠ m + 1)) (fun j _ _ => by simp; omega)).trans (LC_congr fun j hj => ?_)
                unfold PD
                cases gM M j
                · rw [Bool.eq_iff_iff]; simp; omega
                · simp
              rw [hla] at hsum hR4
              rw [hdu] at hO4 hsum
              obtain ⟨a4, c4, hv, _, hm4⟩ := hO4.form
              rw [ids_length] at hv
              obtain ⟨T, hT⟩ : ∃ T, T = LC now d xs.length (fun j => PD (gM M) d m j && decide (d j = m + 1)) := ⟨_, rfl⟩
              rw [← hT] at hO4 hsum hv
              subst hv
              have HT := hid hT
              have HO4 := hid hO4
              have HR4 := hid hR4
              have HK4 := hid hK4
              have HB4 := hid hB4
              have HSUM := hid hsum
              have hT30 : T.length ≤ 30 := by omega
              clear hS hA4 HR HK HB hR4 hK4 hB4 hO4 hdu hla hT hsum
              go_wp2_with fail
              obtain ⟨wp, rfl⟩ : ∃ wp : World, wp = w4 := ⟨_, rfl⟩
              go_loopw [10, 15] (fun lv kv wr => ∃ (k q2 : Nat), k ≤ T.length ∧ q2 + k = q ∧ kv = .int .i64 (k : Int) ∧ lv = .int .i64 (q2 : Int) ∧ wr = wp) (fun _ kv _ => T.length - (intOf kv).toNat)
              case atStart => exact ⟨0, q, by omega, by omega, rfl, rfl, rfl⟩
              case round =>
                obtain ⟨k, q2, hk, hkq, rfl, rfl, rfl⟩ := hrel
                by_cases hlt3 : k < T.length
                · have hlt3i : (k : Int) < (T.length : Int) := by omega
                  obtain ⟨g, off, rfl, _, hcell, _, _⟩ := OwnL.cellAt HO4.out (i := k) (by rw [ids_length]; exact hlt3)
                  obtain ⟨j, hj, hP, hTk⟩ := LC_mem (by rw [← HT.out]; exact List.getElem_mem hlt3)
                  have hid' : (ids T)[k]'(by rw [ids_length]; exact hlt3) = .int .i64 (j : Int) := by simp [ids, hTk]
                  rw [hid'] at hcell
                  have hgj : gM M j = false := by unfold PD at hP; revert hP; cases gM M j <;> simp
                  have hdj : d j = m + 1 := by simp at hP; exact hP.2
                  have hgb : (bits BinOp.and IntKind.u32 ((M : Int) / 2 ^ j) 1 == 1) = false := hgj
                  obtain ⟨g2, off2, rfl, hc⟩ := (hs.old HK4.out (by simp)).cell hj
                  obtain ⟨hy1, hy2⟩ := HY.out j hj
                  rw [hy1] at hc
                  have hy2i : (y j : Int) ≤ 65535 := by omega
                  have hdi : (y j : Int) % 700 = (m : Int) := by rw [HD.out] at hdj; have : 1 + y j % 700 = m + 1 := hdj; omega
                  have hji : (j : Int) < (xs.length : Int) := by omega
                  have hj0i : (0 : Int) ≤ (j : Int) := by omega
                  have hq2i : (1 : Int) ≤ (q2 : Int) := by have := HSUM.out; omega
                  have hq2j : (q2 : Int) ≤ 30 := by omega
                  have hcm : (1 : Int) + (m : Int) = (m : Int) + 1 := by omega
                  obtain ⟨Y, hY⟩ : ∃ Y, Y = y j := ⟨_, rfl⟩
                  rw [← hY] at hdi hc hy2i
                  clear hy1 hy2 hY hid' hTk hP hgj hdj
                  go_wp2_with fail
                  go_roundw
                  case rel => exact ⟨k + 1, q2 - 1, by omega, by omega, by go_num, by congr 1; omega, trivial⟩
                  case measure => simp [intOf]; omega
                · obtain rfl : k = T.length := by omega
                  go_wp2_with fail
                  go_roundw
                  case rel => exact ⟨m + 1, B4, q2, by omega, by have := HSUM.out; omega, by omega, by go_num, rfl, HR4.out, HK4.out, HB4.out⟩
                  case measure => simp [intOf]; omega
            · obtain rfl : m = 700 := by omega
              have hz : LC now d xs.length (PD (gM M) d 700) = [] := by
                refine List.eq_nil_iff_forall_not_mem.2 fun t ht => ?_
                obtain ⟨j, hj, hP, rfl⟩ := LC_mem ht
                have : d j ≤ 700 := by rw [HD.out]; show 1 + y j % 700 ≤ 700; omega
                unfold PD at hP
                simp at hP
                omega
              have hq := HQ.out
              rw [hz] at hq
              have hq0 : q = 0 := hq.symm
              subst hq0
              have HZ := hid hz
              clear hz hq
              go_wp2_with fail
              refine (wr_len HR.out).mono ?_
              rintro e w4 ⟨rfl, rfl⟩
              rw [HZ.out]
              go_wp2
              go_ret
              exact ⟨rfl, HK.out⟩
end WheelCancels
end Go.Proofs.Ytdnaeebehkplpaa
