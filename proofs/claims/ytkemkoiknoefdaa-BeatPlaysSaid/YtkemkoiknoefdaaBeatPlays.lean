/- BeatPlays answers true: the walk. -/
import Derived.Test.YtkemkoiknoefdaaBeatOwn
namespace Go.Proofs.Ytkemkoiknoefdaa
namespace BeatPlays
open Go.RowKit
set_option linter.unusedVariables false
set_option linter.unusedSimpArgs false

/-- The law's own numbers, one a node. -/
def lfs (f : Nat → Nat) : List Value := (List.range 16).map fun (j : Nat) => .int .i64 (f j : Int)
theorem mk16 (w : World) : (Instr.makeSlice 36 (.int .i64 16) (.int .i64 16)).run Try.prog w = .ok (.slice (some ⟨w.heap.size, 0, none⟩) 16 16) (w.alloc (.cells (lfs (fun _ => 0)).toArray 3)) := by kernel_rfl
theorem lfs_len (f : Nat → Nat) : (lfs f).length = 16 := by simp [lfs]
theorem lfs_get (f : Nat → Nat) (j : Nat) (h : j < (lfs f).length) : (lfs f)[j] = .int .i64 (f j : Int) := by simp [lfs]
theorem lfs_set (f : Nat → Nat) (j x : Nat) (hj : j < 16) : (lfs f).set j (.int .i64 (x : Int)) = lfs (upd f j x) := by
  apply List.ext_getElem
  · simp [lfs]
  · intro i h1 h2
    rw [List.getElem_set]
    by_cases e : j = i
    · subst e; rw [if_pos rfl, lfs_get, upd_same]
    · rw [if_neg e, lfs_get, lfs_get, upd_other _ _ (fun x => e x.symm)]
theorem lfs_congr {f g : Nat → Nat} (h : ∀ j, j < 16 → f j = g j) : lfs f = lfs g := by
  unfold lfs
  refine List.map_congr_left fun j hj => ?_
  rw [h j (List.mem_range.1 hj)]
def lfO (f : Nat → Nat) : Obj := .cells (lfs f).toArray 3 (0, 0)
theorem lf_cell {wr : World} {lb : Nat} {f : Nat → Nat} (h : wr.heap[lb]? = some (lfO f)) (j : Nat) (hj : j < 16) : wr.cell? ⟨lb, j, none⟩ = some (.int .i64 (f j : Int)) := by
  rw [cell_of h]
  simp [lfs, hj]
theorem lfO_eq (f : Nat → Nat) (j x : Nat) (hj : j < 16) : (Obj.cells ((lfs f).toArray.setIfInBounds j (.int .i64 (x : Int))) 3 (0, 0)) = lfO (upd f j x) := by
  unfold lfO
  rw [← lfs_set f j x hj]
  simp
theorem lf_set {wr : World} {lb : Nat} {f : Nat → Nat} (h : wr.heap[lb]? = some (lfO f)) (j x : Nat) (hj : j < 16) : (wr.setCell ⟨lb, j, none⟩ (.int .i64 (x : Int))).heap[lb]? = some (lfO (upd f j x)) := by
  rw [blk_set h, lfO_eq f j x hj]
set_option maxRecDepth 100000 in
set_option maxHeartbeats 16000000 in
theorem walk (w : World) (a : Int) (ha : 0 ≤ a ∧ a ≤ 255) (b : Int) (hb : 0 ≤ b ∧ b ≤ 255) (c : Int) (hc : 0 ≤ c ∧ c ≤ 255) (o0 : Int) (ho0 : 0 ≤ o0 ∧ o0 ≤ 255) (ad : Option Addr) (n cap : Nat) (xs : List Value) (hs : Sl w (.slice ad n cap) xs) (ho : ∀ x ∈ xs, ∃ n : Int, x = .int .u8 n ∧ (Lit.int .u8 n).wf = true) :
    Calls Try.prog 4 #[.int .u8 a, .int .u8 b, .int .u8 c, .int .u8 o0, .slice ad n cap] w fun e w' => e = .returned (.bool true) ∧ Kept [] w w' := by
  obtain ⟨hn, hcap, hmax⟩ := hs.len
  subst hn
  unfold maxLen at hmax
  obtain ⟨nn, hnn⟩ := conf_nat a 16 1 (by omega) (by omega)
  obtain ⟨bt, hbt⟩ := conf_nat b 6 1 (by omega) (by omega)
  obtain ⟨ms, hms⟩ := conf_nat c 12 ((bt : Int) + 1) (by omega) (by omega)
  have HF := hid (okForm_conf nn bt ms b c a hnn hbt hms)
  have HCF := hid (config_any a b c ha hb hc nn bt ms hnn hbt hms)
  have hnn16 : 1 ≤ nn ∧ nn ≤ 16 := by omega
  have hbt6 : 1 ≤ bt ∧ bt ≤ 6 := by omega
  have hms20 : ms ≤ 18 ∧ 1 ≤ ms := by omega
  obtain ⟨g1, g2⟩ := hnn16
  obtain ⟨g3, g4⟩ := hbt6
  obtain ⟨g5, g6⟩ := hms20
  obtain ⟨me, hme⟩ := conf_nat o0 (nn : Int) 0 (by omega) (by omega)
  have hme2 : me < nn := by have h1 := Int.emod_lt_of_pos o0 (b := (nn : Int)) (by omega); omega
  have hmei : o0 % (nn : Int) = (me : Int) := by omega
  obtain ⟨o1, o2⟩ := ho0
  have hbi1 : (1 : Int) ≤ (bt : Int) := by omega
  have hbi2 : (bt : Int) ≤ 6 := by omega
  have hbi0 : ¬ (bt : Int) = 0 := by omega
  have hni1 : (1 : Int) ≤ (nn : Int) := by omega
  have hni0 : ¬ (nn : Int) = 0 := by omega
  clear hnn hbt hms ha hb hc hme
  go_enter Try.func4, Try.ntmps4
  go_wp2_with fail
  refine (awake_true w).mono ?_
  rintro e w1 ⟨rfl, hK1⟩
  go_wp2_with fail
  refine (HCF.out w1).mono ?_
  rintro e w2 ⟨rfl, hK2⟩
  have K2 := hid (hK1.trans hK2)
  have HBX := hid (blk_alloc_new w2 (cfgO (nn : Int) (bt : Int) (ms : Int) 1 1 1))
  clear hK1 hK2
  unfold cfg
  go_wp2_with fail
  refine (beat_new nn me bt ms 1 1 1 HF.out hme2 _).mono ?_
  rintro e w3 ⟨bb, C, ev, rfl, hT, hK3, hC⟩
  have HT := hid hT
  have HB := hid (⟨hK3.blk HBX.out (by simp), fun h => by have := hC _ h; simp at this; omega⟩ : BXs w3 C w2.heap.size (cfgO (nn : Int) (bt : Int) (ms : Int) 1 1 1))
  have HK := hid ((K2.out.trans (kept_new _)).trans hK3)
  have HC := hid (fun k hk => by have h1 := hC k hk; have h2 := K2.out.size; simp at h1; omega : ∀ k, C k → w.heap.size ≤ k)
  clear hT hK3 hC K2 HBX
  have hmk := mk16
  obtain ⟨ls, hls⟩ : ∃ ls : Array Value, ls = (lfs (fun _ => 0)).toArray := ⟨_, rfl⟩
  rw [← hls] at hmk
  have HLS := hid hls
  clear hls
  go_wp2_with fail
  have HL := hid (⟨by have := blk_alloc_new w3 (.cells ls 3); rw [HLS.out] at this ⊢; exact this, fun h => by have := HT.out.lt h; omega⟩ : BXs (w3.alloc (.cells ls 3)) C w3.heap.size (lfO fun _ => 0))
  have HAL := hid (kept_new (w := w3) (.cells ls 3))
  have HT4 := hid (HT.out.still HAL.out)
  have HB4 := hid (HB.out.still HAL.out)
  have HK4 := hid (HK.out.trans HAL.out)
  have HLW := hid (HK.out.size : w.heap.size ≤ w3.heap.size)
  obtain ⟨w4, hw4⟩ : ∃ w4, w4 = w3.alloc (.cells ls 3) := ⟨_, rfl⟩
  rw [← hw4] at HL HT4 HB4 HK4 ⊢
  obtain ⟨lb, hlb⟩ : ∃ lb, lb = w3.heap.size := ⟨_, rfl⟩
  rw [← hlb] at HL HLW ⊢
  obtain ⟨cb, hcb⟩ : ∃ cb, cb = w2.heap.size := ⟨_, rfl⟩
  rw [← hcb] at HB4 ⊢
  have HNE := hid (by have := lt_of_blk HB.out.at_; omega : cb ≠ lb)
  clear hw4 hlb hcb HAL HT HB HK hmk
  go_loopw [16, 17, 18, 19, 20, 21, 22, 23, 24] (fun tv iv u1 u2 u3 u4 u5 u6 u7 wr => ∃ (i t q n D ev : Nat) (C : Nat → Prop) (H : Nat → Nat), i ≤ xs.length ∧ i ≤ 200 ∧ t ≤ i ∧ n ≤ 1 + 2 * i ∧ q ≤ t ∧ Due bt t q D ∧ tv = .int .i64 (t : Int) ∧ iv = .int .i64 (i : Int) ∧ BT wr bb C nn me bt ms t n D H ev ∧ BXs wr C cb (cfgO (nn : Int) (bt : Int) (ms : Int) 1 1 1) ∧ BXs wr C lb (lfO fun j => H j - t) ∧ Kept [] w wr ∧ (∀ k, C k → w.heap.size ≤ k) ∧ (∀ j, H j ≤ t + 18)) (fun _ iv _ _ _ _ _ _ _ _ => xs.length - (intOf iv).toNat)
  case atStart => exact ⟨0, 0, 0, 1, 1, ev, C, _, by omega, by omega, by omega, by omega, by omega, Due.zero g3, rfl, rfl, HT4.out, HB4.out, by simpa using HL.out, HK4.out, HC.out, fun j => by simp⟩
  case round =>
    clear HT4 HB4 HL HK4 HC
    obtain ⟨i, t, q, n, D, ev, C, H, hi, hi200, ht, hn, hq, hdue, rfl, rfl, hT, hB, hL, hK, hC, hH⟩ := hrel
    have HT := hid hT
    have HB := hid hB
    have HL := hid hL
    have HK := hid hK
    have HC := hid hC
    have HH := hid hH
    have HDU := hid hdue
    clear hT hB hL hK hC hH hdue
    have hti : (t : Int) ≤ 200 := by omega
    by_cases hlt : i < xs.length ∧ i < 200
    · obtain ⟨hlt1, hlt2⟩ := hlt
      have hlt1i : (i : Int) < (xs.length : Int) := by omega
      have hlt2i : (i : Int) < 200 := by omega
      obtain ⟨g, off, rfl, hcl⟩ := (hs.old HK.out (by simp)).cell hlt1
      obtain ⟨y, hy, wy⟩ := ho _ (List.getElem_mem hlt1)
      rw [hy] at hcl
      obtain ⟨u1, v1⟩ := bounds_u8 wy
      obtain ⟨Y, rfl⟩ : ∃ Y : Nat, y = (Y : Int) := ⟨y.toNat, by omega⟩
      clear hy wy
      by_cases hy128 : 128 ≤ Y
      · have hy128i : (128 : Int) ≤ (Y : Int) := by omega
        as_aux_lemma =>
          go_wp2_with fail
          refine (beat_tick HT.out (by omega) (by omega)).mono ?_
          rintro e w5 ⟨rfl, C5, e5, n5, hn5, hT5, hS5⟩
          obtain ⟨hK5, hC5⟩ := hS5.base HK.out HC.out
          have HT4 := hid hT5
          have HB4 := hid (HB.out.step hS5)
          have HL4 := hid (HL.out.step hS5)
          have HK4 := hid hK5
          have HC5 := hid hC5
          have HDU4 := hid (HDU.out.step g3)
          have d1 : w5.cell? ⟨cb, 1, none⟩ = some (.int .i64 (bt : Int)) := (cell_of HB4.out.at_).trans rfl
          clear hT5 hS5 hK5 hC5 HT HB HL HK HC hcl
          obtain ⟨f, hf⟩ : ∃ f : Bool, f = decide (D = t + 1) := ⟨_, rfl⟩
          have hm : ((t : Int) % (bt : Int) == 0) = f := by
            have h9 := HDU.out.now
            rw [hf, Bool.eq_iff_iff]
            simp
            omega
          rw [← hf]
          obtain ⟨q5, hq5⟩ : ∃ q5, q5 = if t % bt = 0 then q + 1 else q := ⟨_, rfl⟩
          obtain ⟨D5, hD5⟩ : ∃ D5, D5 = if D = t + 1 then t + 1 + bt else D := ⟨_, rfl⟩
          have hq6 : q5 ≤ t + 1 := by rw [hq5]; split <;> omega
          rw [← hq5, ← hD5] at HDU4
          rw [← hD5] at HT4
          clear hf hq5 hD5 HDU
          cases f
          all_goals
            go_wp2_with fail
            obtain ⟨wo, rfl⟩ : ∃ wo : World, wo = wr := ⟨_, rfl⟩
            clear d1
            go_loopw [20] (fun jv wr => ∃ j : Nat, j ≤ 16 ∧ jv = .int .i64 (j : Int) ∧ Kept [lb] w5 wr ∧ wr.heap[lb]? = some (lfO fun r => if r < j then H r - (t + 1) else H r - t)) (fun jv _ => 16 - (intOf jv).toNat)
            case atStart => exact ⟨0, by omega, rfl, Kept.refl _ _, by simpa using HL4.out.at_⟩
            case round =>
              obtain ⟨j, hj, rfl, hk5, hl5⟩ := hrel
              by_cases hlj : j < 16
              · have hlji : (j : Int) < 16 := by omega
                have hcell := lf_cell hl5 j hlj
                have hfz : wr.frozen? ⟨lb, j, none⟩ = false := frozen_of hl5
                rw [if_neg (by omega)] at hcell
                obtain ⟨X, hX⟩ : ∃ X, X = H j - t := ⟨_, rfl⟩
                rw [← hX] at hcell
                have hXl : X ≤ 18 := by have := HH.out j; omega
                have hXi : (X : Int) ≤ 18 := by omega
                have HX := hid hX
                have HK6 := hid hk5
                have HL6 := hid hl5
                clear hX hk5 hl5
                by_cases hx0 : 0 < X
                · have hx0i : (0 : Int) < (X : Int) := by omega
                  have hx1i : (1 : Int) ≤ (X : Int) := by omega
                  obtain ⟨X1, hX1⟩ : ∃ X1, X1 = X - 1 := ⟨_, rfl⟩
                  have hx2i : (X : Int) - 1 = (X1 : Int) := by omega
                  have HX1 := hid hX1
                  clear hX1
                  go_wp2_with fail
                  go_roundw
                  case rel => exact ⟨j + 1, by omega, by go_num, HK6.out.trans ((Kept.refl [lb] wr).setCell (p := ⟨lb, j, none⟩) (by simp) _), by
                    rw [lf_set HL6.out j X1 hlj]
                    unfold lfO
                    rw [lfs_congr (g := fun r => if r < j + 1 then H r - (t + 1) else H r - t) (fun r hr => by
                      have h8 := HX.out
                      have h9 := HX1.out
                      unfold upd
                      by_cases e : r = j
                      · subst e; rw [if_pos rfl, if_pos (by omega)]; omega
                      · rw [if_neg e]
                        dsimp only
                        by_cases e2 : r < j
                        · rw [if_pos e2, if_pos (by omega)]
                        · rw [if_neg e2, if_neg (by omega)])]⟩
                  case measure => simp [intOf]; omega
                · have hx0i : ¬ (0 : Int) < (X : Int) := by omega
                  go_wp2_with fail
                  go_roundw
                  case rel => exact ⟨j + 1, by omega, by go_num, HK6.out, by
                    rw [HL6.out]
                    unfold lfO
                    rw [lfs_congr (g := fun r => if r < j + 1 then H r - (t + 1) else H r - t) (fun r hr => by
                      have h8 := HX.out
                      by_cases e : r = j
                      · subst e; rw [if_neg (by omega), if_pos (by omega)]; omega
                      · by_cases e2 : r < j
                        · rw [if_pos e2, if_pos (by omega)]
                        · rw [if_neg e2, if_neg (by omega)])]⟩
                  case measure => simp [intOf]; omega
              · obtain rfl : j = 16 := by omega
                have HT5 := hid (HT4.out.kept hk5 (fun k hk => by simp at hk; subst hk; exact HL4.out.nb))
                have HB5 := hid (⟨hk5.blk HB4.out.at_ (by simp; exact HNE.out), HB4.out.nb⟩ : BXs wr C5 cb (cfgO (nn : Int) (bt : Int) (ms : Int) 1 1 1))
                have HL5 := hid (⟨by rw [hl5]; unfold lfO; rw [lfs_congr (g := fun r => H r - (t + 1)) (fun r hr => by rw [if_pos hr])], HL4.out.nb⟩ : BXs wr C5 lb (lfO fun j => H j - (t + 1)))
                have HK5 := hid (HK4.out.join hk5 (fun k hk hlt => by simp at hk; have := HLW.out; omega))
                have HH5 := hid (fun j => by have := HH.out j; omega : ∀ j, H j ≤ t + 1 + 18)
                have HDU5 := HDU4
                clear hk5 hl5 HT4 HB4 HL4 HK4 HH HDU4
                go_wp2_with fail
                refine (rwith_zero me (by omega) wr).mono ?_
                rintro e w7 ⟨rfl, rfl⟩
                go_wp2_with fail
                obtain ⟨wq, hwq⟩ : ∃ wq, wq = wr := ⟨_, rfl⟩
                rw [← hwq] at HT5 HB5 HL5 HK5 ⊢
                clear hwq
                go_loop [23, 24] (fun sv jv => ∃ j s : Nat, j ≤ 16 ∧ s < 65536 ∧ (∀ r, r < 16 → s.testBit r = (decide (r = me) || (decide (r < j) && decide ((t + 1) < H r)))) ∧ sv = .int .u16 (s : Int) ∧ jv = .int .i64 (j : Int)) (fun _ jv => 16 - (intOf jv).toNat)
                case atStart => exact ⟨0, setIn 0 me, by omega, setIn_lt _ _, fun r hr => by rw [setIn_bit _ _ _ hr]; simp [eq_comm], rfl, rfl⟩
                case round =>
                  obtain ⟨j, s, hj, hs6, hbits, rfl, rfl⟩ := hrel
                  have HBI := hid hbits
                  clear hbits
                  by_cases hlj : j < 16
                  · have hlji : (j : Int) < 16 := by omega
                    have hcell := lf_cell HL5.out.at_ j hlj
                    obtain ⟨X, hX⟩ : ∃ X, X = H j - ((t + 1)) := ⟨_, rfl⟩
                    rw [← hX] at hcell
                    have HX := hid hX
                    clear hX
                    by_cases hx0 : 0 < X
                    · have hx0i : (0 : Int) < (X : Int) := by omega
                      go_wp2_with fail
                      refine (rwith_any s j hs6 hlj wq).mono ?_
                      rintro e w8 ⟨rfl, rfl⟩
                      go_wp2_with fail
                      go_round
                      case rel => exact ⟨j + 1, setIn s j, by omega, setIn_lt _ _, fun r hr => by
                        rw [setIn_bit _ _ _ hr, HBI.out r hr]
                        have h9 := HX.out
                        by_cases e : j = r
                        · subst e
                          have : (t + 1) < H j := by omega
                          simp [this]
                        · simp [e, show (r < j + 1) ↔ (r < j) by omega], by go_num, by go_num⟩
                      case measure => simp [intOf]; omega
                    · have hx0i : ¬ (0 : Int) < (X : Int) := by omega
                      go_wp2_with fail
                      go_round
                      case rel => exact ⟨j + 1, s, by omega, hs6, fun r hr => by
                        rw [HBI.out r hr]
                        have h9 := HX.out
                        by_cases e : j = r
                        · subst e
                          have : ¬ (t + 1) < H j := by omega
                          simp [this]
                        · simp [show (r < j + 1) ↔ (r < j) by omega], by go_num, by go_num⟩
                      case measure => simp [intOf]; omega
                  · obtain rfl : j = 16 := by omega
                    have hse : s = e5 := set_eq hs6 HT5.out.nums.2.2.2.2.2.2.2 (fun r hr => by rw [HBI.out r hr, HT5.out.bits r hr]; simp [hr])
                    subst hse
                    go_wp2_with fail
                    refine (est_any HT5.out).mono ?_
                    rintro e w8 ⟨rfl, rfl⟩
                    go_wp2_with fail
                    go_roundw
                    case rel => exact ⟨i + 1, t + 1, q5, n5, _, _, C5, H, by omega, by omega, by omega, by omega, by omega, HDU5.out, by go_num, by go_num, HT5.out, HB5.out, HL5.out, HK5.out, HC5.out, HH5.out⟩
                    case measure => simp [intOf]; omega
      · have hy128i : ¬ (128 : Int) ≤ (Y : Int) := by omega
        obtain ⟨J, hJ⟩ : ∃ J : Int, (Y : Int) % 20 - 2 = J := ⟨_, rfl⟩
        have hJ1 : -2 ≤ J ∧ J ≤ 17 := by omega
        obtain ⟨hJ1, hJ2⟩ := hJ1
        by_cases hok : 0 ≤ J ∧ J < (nn : Int) ∧ J ≠ (me : Int)
        · as_aux_lemma =>
              obtain ⟨hk0, hk1, hk2⟩ := hok
              obtain ⟨K, rfl⟩ : ∃ K : Nat, J = (K : Int) := ⟨J.toNat, by omega⟩
              have hkn : K < nn := by omega
              have hkm : K ≠ me := by omega
              have hkmb : ((K : Int) == (me : Int)) = false := beq_eq_false_iff_ne.2 hk2
              have hkn2 : ¬ (nn : Int) ≤ (K : Int) := by omega
              have hkn3 : ¬ nn ≤ K := by omega
              clear hk2
              go_wp2_with fail
              refine (heard_ok HT.out K hkn hkm (by omega) (by omega)).mono ?_
              rintro e w5 ⟨rfl, C5, e5, hT5, hS5⟩
              obtain ⟨hK5, hC5⟩ := hS5.base HK.out HC.out
              have HT4 := hid hT5
              have HB4 := hid (HB.out.step hS5)
              have HL4 := hid (HL.out.step hS5)
              have HK4 := hid hK5
              have HC5 := hid hC5
              have d0 : w5.cell? ⟨cb, 0, none⟩ = some (.int .i64 (nn : Int)) := (cell_of HB4.out.at_).trans rfl
              have d2 : w5.cell? ⟨cb, 2, none⟩ = some (.int .i64 (ms : Int)) := (cell_of HB4.out.at_).trans rfl
              have l0 : w5.cell? ⟨lb, K, none⟩ = some (.int .i64 ((H K - t : Nat) : Int)) := lf_cell HL4.out.at_ K (by omega)
              have l1 : w5.frozen? ⟨lb, K, none⟩ = false := frozen_of HL4.out.at_
              clear hT5 hS5 hK5 hC5 HT HB HL HK HC hcl
              go_wp2_with fail
              have hset : Kept [lb] w5 (w5.setCell ⟨lb, K, none⟩ (.int .i64 (ms : Int))) := (Kept.refl _ _).setCell (by simp) _
              have HT5 := hid (HT4.out.kept hset (fun k hk => by simp at hk; subst hk; exact HL4.out.nb))
              have HB5 := hid (⟨hset.blk HB4.out.at_ (by simp; exact HNE.out), HB4.out.nb⟩ : BXs _ C5 cb _)
              have HL5 := hid (⟨by rw [lf_set HL4.out.at_ K ms (by omega)]; unfold lfO; rw [lfs_congr (g := fun j => upd H K (t + ms) j - t) (fun j hj => by unfold upd; dsimp only; split <;> omega)], HL4.out.nb⟩ : BXs (w5.setCell ⟨lb, K, none⟩ (.int .i64 (ms : Int))) C5 lb (lfO fun j => upd H K (t + ms) j - t))
              have HK5 := hid (HK4.out.join hset (fun k hk hlt => by simp at hk; have := HLW.out; omega))
              have HH5 := hid (fun j => by have := HH.out j; unfold upd; split <;> omega : ∀ j, upd H K (t + ms) j ≤ t + 18)
              have HDU5 := HDU
              clear hset HT4 HB4 HL4 HK4 HH l0 l1 d0 d2
              go_wp2_with fail
              refine (rwith_zero me (by omega) (w5.setCell ⟨lb, K, none⟩ (.int .i64 (ms : Int)))).mono ?_
              rintro e w7 ⟨rfl, rfl⟩
              go_wp2_with fail
              obtain ⟨wq, hwq⟩ : ∃ wq, wq = (w5.setCell ⟨lb, K, none⟩ (.int .i64 (ms : Int))) := ⟨_, rfl⟩
              rw [← hwq] at HT5 HB5 HL5 HK5 ⊢
              clear hwq
              go_loop [23, 24] (fun sv jv => ∃ j s : Nat, j ≤ 16 ∧ s < 65536 ∧ (∀ r, r < 16 → s.testBit r = (decide (r = me) || (decide (r < j) && decide (t < (upd H K (t + ms)) r)))) ∧ sv = .int .u16 (s : Int) ∧ jv = .int .i64 (j : Int)) (fun _ jv => 16 - (intOf jv).toNat)
              case atStart => exact ⟨0, setIn 0 me, by omega, setIn_lt _ _, fun r hr => by rw [setIn_bit _ _ _ hr]; simp [eq_comm], rfl, rfl⟩
              case round =>
                obtain ⟨j, s, hj, hs6, hbits, rfl, rfl⟩ := hrel
                have HBI := hid hbits
                clear hbits
                by_cases hlj : j < 16
                · have hlji : (j : Int) < 16 := by omega
                  have hcell := lf_cell HL5.out.at_ j hlj
                  obtain ⟨X, hX⟩ : ∃ X, X = (upd H K (t + ms)) j - (t) := ⟨_, rfl⟩
                  rw [← hX] at hcell
                  have HX := hid hX
                  clear hX
                  by_cases hx0 : 0 < X
                  · have hx0i : (0 : Int) < (X : Int) := by omega
                    go_wp2_with fail
                    refine (rwith_any s j hs6 hlj wq).mono ?_
                    rintro e w8 ⟨rfl, rfl⟩
                    go_wp2_with fail
                    go_round
                    case rel => exact ⟨j + 1, setIn s j, by omega, setIn_lt _ _, fun r hr => by
                      rw [setIn_bit _ _ _ hr, HBI.out r hr]
                      have h9 := HX.out
                      by_cases e : j = r
                      · subst e
                        have : t < (upd H K (t + ms)) j := by omega
                        simp [this]
                      · simp [e, show (r < j + 1) ↔ (r < j) by omega], by go_num, by go_num⟩
                    case measure => simp [intOf]; omega
                  · have hx0i : ¬ (0 : Int) < (X : Int) := by omega
                    go_wp2_with fail
                    go_round
                    case rel => exact ⟨j + 1, s, by omega, hs6, fun r hr => by
                      rw [HBI.out r hr]
                      have h9 := HX.out
                      by_cases e : j = r
                      · subst e
                        have : ¬ t < (upd H K (t + ms)) j := by omega
                        simp [this]
                      · simp [show (r < j + 1) ↔ (r < j) by omega], by go_num, by go_num⟩
                    case measure => simp [intOf]; omega
                · obtain rfl : j = 16 := by omega
                  have hse : s = e5 := set_eq hs6 HT5.out.nums.2.2.2.2.2.2.2 (fun r hr => by rw [HBI.out r hr, HT5.out.bits r hr]; simp [hr])
                  subst hse
                  go_wp2_with fail
                  refine (est_any HT5.out).mono ?_
                  rintro e w8 ⟨rfl, rfl⟩
                  go_wp2_with fail
                  go_roundw
                  case rel => exact ⟨i + 1, t, q, (n + 1), _, _, C5, (upd H K (t + ms)), by omega, by omega, by omega, by omega, by omega, HDU5.out, by go_num, by go_num, HT5.out, HB5.out, HL5.out, HK5.out, HC5.out, HH5.out⟩
                  case measure => simp [intOf]; omega
        · have HOK := hid hok
          clear hok
          go_wp2_with fail
          refine (heard_bad HT.out J (by have := HOK.out; omega)).mono ?_
          rintro e w5 ⟨rfl, rfl⟩
          have d0 : wr.cell? ⟨cb, 0, none⟩ = some (.int .i64 (nn : Int)) := (cell_of HB.out.at_).trans rfl
          have HT5 := hid HT.out
          have HB5 := hid HB.out
          have HL5 := hid HL.out
          have HK5 := hid HK.out
          have HC5 := hid HC.out
          have HH5 := hid HH.out
          have HDU5 := HDU
          have hbc : J < 0 ∨ (¬ J < 0 ∧ (nn : Int) ≤ J) ∨ (¬ J < 0 ∧ ¬ (nn : Int) ≤ J ∧ J = (me : Int)) := by have := HOK.out; omega
          clear HT HB HL HK HC HH hcl
          rcases hbc with hb1 | ⟨hb1, hb2⟩ | ⟨hb1, hb2, hb3⟩
          · as_aux_lemma =>
              go_wp2_with fail
              refine (rwith_zero me (by omega) wr).mono ?_
              rintro e w7 ⟨rfl, rfl⟩
              go_wp2_with fail
              obtain ⟨wq, hwq⟩ : ∃ wq, wq = wr := ⟨_, rfl⟩
              rw [← hwq] at HT5 HB5 HL5 HK5 ⊢
              clear hwq
              go_loop [23, 24] (fun sv jv => ∃ j s : Nat, j ≤ 16 ∧ s < 65536 ∧ (∀ r, r < 16 → s.testBit r = (decide (r = me) || (decide (r < j) && decide (t < H r)))) ∧ sv = .int .u16 (s : Int) ∧ jv = .int .i64 (j : Int)) (fun _ jv => 16 - (intOf jv).toNat)
              case atStart => exact ⟨0, setIn 0 me, by omega, setIn_lt _ _, fun r hr => by rw [setIn_bit _ _ _ hr]; simp [eq_comm], rfl, rfl⟩
              case round =>
                obtain ⟨j, s, hj, hs6, hbits, rfl, rfl⟩ := hrel
                have HBI := hid hbits
                clear hbits
                by_cases hlj : j < 16
                · have hlji : (j : Int) < 16 := by omega
                  have hcell := lf_cell HL5.out.at_ j hlj
                  obtain ⟨X, hX⟩ : ∃ X, X = H j - (t) := ⟨_, rfl⟩
                  rw [← hX] at hcell
                  have HX := hid hX
                  clear hX
                  by_cases hx0 : 0 < X
                  · have hx0i : (0 : Int) < (X : Int) := by omega
                    go_wp2_with fail
                    refine (rwith_any s j hs6 hlj wq).mono ?_
                    rintro e w8 ⟨rfl, rfl⟩
                    go_wp2_with fail
                    go_round
                    case rel => exact ⟨j + 1, setIn s j, by omega, setIn_lt _ _, fun r hr => by
                      rw [setIn_bit _ _ _ hr, HBI.out r hr]
                      have h9 := HX.out
                      by_cases e : j = r
                      · subst e
                        have : t < H j := by omega
                        simp [this]
                      · simp [e, show (r < j + 1) ↔ (r < j) by omega], by go_num, by go_num⟩
                    case measure => simp [intOf]; omega
                  · have hx0i : ¬ (0 : Int) < (X : Int) := by omega
                    go_wp2_with fail
                    go_round
                    case rel => exact ⟨j + 1, s, by omega, hs6, fun r hr => by
                      rw [HBI.out r hr]
                      have h9 := HX.out
                      by_cases e : j = r
                      · subst e
                        have : ¬ t < H j := by omega
                        simp [this]
                      · simp [show (r < j + 1) ↔ (r < j) by omega], by go_num, by go_num⟩
                    case measure => simp [intOf]; omega
                · obtain rfl : j = 16 := by omega
                  have hse : s = ev := set_eq hs6 HT5.out.nums.2.2.2.2.2.2.2 (fun r hr => by rw [HBI.out r hr, HT5.out.bits r hr]; simp [hr])
                  subst hse
                  go_wp2_with fail
                  refine (est_any HT5.out).mono ?_
                  rintro e w8 ⟨rfl, rfl⟩
                  go_wp2_with fail
                  go_roundw
                  case rel => exact ⟨i + 1, t, q, n, _, _, C, H, by omega, by omega, by omega, by omega, by omega, HDU5.out, by go_num, by go_num, HT5.out, HB5.out, HL5.out, HK5.out, HC5.out, HH5.out⟩
                  case measure => simp [intOf]; omega
          · as_aux_lemma =>
              go_wp2_with fail
              refine (rwith_zero me (by omega) wr).mono ?_
              rintro e w7 ⟨rfl, rfl⟩
              go_wp2_with fail
              obtain ⟨wq, hwq⟩ : ∃ wq, wq = wr := ⟨_, rfl⟩
              rw [← hwq] at HT5 HB5 HL5 HK5 ⊢
              clear hwq
              go_loop [23, 24] (fun sv jv => ∃ j s : Nat, j ≤ 16 ∧ s < 65536 ∧ (∀ r, r < 16 → s.testBit r = (decide (r = me) || (decide (r < j) && decide (t < H r)))) ∧ sv = .int .u16 (s : Int) ∧ jv = .int .i64 (j : Int)) (fun _ jv => 16 - (intOf jv).toNat)
              case atStart => exact ⟨0, setIn 0 me, by omega, setIn_lt _ _, fun r hr => by rw [setIn_bit _ _ _ hr]; simp [eq_comm], rfl, rfl⟩
              case round =>
                obtain ⟨j, s, hj, hs6, hbits, rfl, rfl⟩ := hrel
                have HBI := hid hbits
                clear hbits
                by_cases hlj : j < 16
                · have hlji : (j : Int) < 16 := by omega
                  have hcell := lf_cell HL5.out.at_ j hlj
                  obtain ⟨X, hX⟩ : ∃ X, X = H j - (t) := ⟨_, rfl⟩
                  rw [← hX] at hcell
                  have HX := hid hX
                  clear hX
                  by_cases hx0 : 0 < X
                  · have hx0i : (0 : Int) < (X : Int) := by omega
                    go_wp2_with fail
                    refine (rwith_any s j hs6 hlj wq).mono ?_
                    rintro e w8 ⟨rfl, rfl⟩
                    go_wp2_with fail
                    go_round
                    case rel => exact ⟨j + 1, setIn s j, by omega, setIn_lt _ _, fun r hr => by
                      rw [setIn_bit _ _ _ hr, HBI.out r hr]
                      have h9 := HX.out
                      by_cases e : j = r
                      · subst e
                        have : t < H j := by omega
                        simp [this]
                      · simp [e, show (r < j + 1) ↔ (r < j) by omega], by go_num, by go_num⟩
                    case measure => simp [intOf]; omega
                  · have hx0i : ¬ (0 : Int) < (X : Int) := by omega
                    go_wp2_with fail
                    go_round
                    case rel => exact ⟨j + 1, s, by omega, hs6, fun r hr => by
                      rw [HBI.out r hr]
                      have h9 := HX.out
                      by_cases e : j = r
                      · subst e
                        have : ¬ t < H j := by omega
                        simp [this]
                      · simp [show (r < j + 1) ↔ (r < j) by omega], by go_num, by go_num⟩
                    case measure => simp [intOf]; omega
                · obtain rfl : j = 16 := by omega
                  have hse : s = ev := set_eq hs6 HT5.out.nums.2.2.2.2.2.2.2 (fun r hr => by rw [HBI.out r hr, HT5.out.bits r hr]; simp [hr])
                  subst hse
                  go_wp2_with fail
                  refine (est_any HT5.out).mono ?_
                  rintro e w8 ⟨rfl, rfl⟩
                  go_wp2_with fail
                  go_roundw
                  case rel => exact ⟨i + 1, t, q, n, _, _, C, H, by omega, by omega, by omega, by omega, by omega, HDU5.out, by go_num, by go_num, HT5.out, HB5.out, HL5.out, HK5.out, HC5.out, HH5.out⟩
                  case measure => simp [intOf]; omega
          · as_aux_lemma =>
              subst hb3
              go_wp2_with fail
              refine (rwith_zero me (by omega) wr).mono ?_
              rintro e w7 ⟨rfl, rfl⟩
              go_wp2_with fail
              obtain ⟨wq, hwq⟩ : ∃ wq, wq = wr := ⟨_, rfl⟩
              rw [← hwq] at HT5 HB5 HL5 HK5 ⊢
              clear hwq
              go_loop [23, 24] (fun sv jv => ∃ j s : Nat, j ≤ 16 ∧ s < 65536 ∧ (∀ r, r < 16 → s.testBit r = (decide (r = me) || (decide (r < j) && decide (t < H r)))) ∧ sv = .int .u16 (s : Int) ∧ jv = .int .i64 (j : Int)) (fun _ jv => 16 - (intOf jv).toNat)
              case atStart => exact ⟨0, setIn 0 me, by omega, setIn_lt _ _, fun r hr => by rw [setIn_bit _ _ _ hr]; simp [eq_comm], rfl, rfl⟩
              case round =>
                obtain ⟨j, s, hj, hs6, hbits, rfl, rfl⟩ := hrel
                have HBI := hid hbits
                clear hbits
                by_cases hlj : j < 16
                · have hlji : (j : Int) < 16 := by omega
                  have hcell := lf_cell HL5.out.at_ j hlj
                  obtain ⟨X, hX⟩ : ∃ X, X = H j - (t) := ⟨_, rfl⟩
                  rw [← hX] at hcell
                  have HX := hid hX
                  clear hX
                  by_cases hx0 : 0 < X
                  · have hx0i : (0 : Int) < (X : Int) := by omega
                    go_wp2_with fail
                    refine (rwith_any s j hs6 hlj wq).mono ?_
                    rintro e w8 ⟨rfl, rfl⟩
                    go_wp2_with fail
                    go_round
                    case rel => exact ⟨j + 1, setIn s j, by omega, setIn_lt _ _, fun r hr => by
                      rw [setIn_bit _ _ _ hr, HBI.out r hr]
                      have h9 := HX.out
                      by_cases e : j = r
                      · subst e
                        have : t < H j := by omega
                        simp [this]
                      · simp [e, show (r < j + 1) ↔ (r < j) by omega], by go_num, by go_num⟩
                    case measure => simp [intOf]; omega
                  · have hx0i : ¬ (0 : Int) < (X : Int) := by omega
                    go_wp2_with fail
                    go_round
                    case rel => exact ⟨j + 1, s, by omega, hs6, fun r hr => by
                      rw [HBI.out r hr]
                      have h9 := HX.out
                      by_cases e : j = r
                      · subst e
                        have : ¬ t < H j := by omega
                        simp [this]
                      · simp [show (r < j + 1) ↔ (r < j) by omega], by go_num, by go_num⟩
                    case measure => simp [intOf]; omega
                · obtain rfl : j = 16 := by omega
                  have hse : s = ev := set_eq hs6 HT5.out.nums.2.2.2.2.2.2.2 (fun r hr => by rw [HBI.out r hr, HT5.out.bits r hr]; simp [hr])
                  subst hse
                  go_wp2_with fail
                  refine (est_any HT5.out).mono ?_
                  rintro e w8 ⟨rfl, rfl⟩
                  go_wp2_with fail
                  go_roundw
                  case rel => exact ⟨i + 1, t, q, n, _, _, C, H, by omega, by omega, by omega, by omega, by omega, HDU5.out, by go_num, by go_num, HT5.out, HB5.out, HL5.out, HK5.out, HC5.out, HH5.out⟩
                  case measure => simp [intOf]; omega
    · have hex : i = xs.length ∨ (i < xs.length ∧ i = 200) := by omega
      rcases hex with hex | ⟨hex1, hex⟩
      all_goals
        subst hex
        go_wp2
        go_ret
        exact ⟨rfl, HK.out⟩
  end BeatPlays
  end Go.Proofs.Ytkemkoiknoefdaa
