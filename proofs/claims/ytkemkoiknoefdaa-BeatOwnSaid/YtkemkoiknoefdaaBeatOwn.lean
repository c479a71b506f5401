/- BeatOwn answers true: the walk. -/
import Derived.Test.YtkemkoiknoefdaaBeatConf
import Derived.Test.YtkemkoiknoefdaaArgs
namespace Go.Proofs.Ytkemkoiknoefdaa
open Go.RowKit
set_option linter.unusedVariables false
set_option linter.unusedSimpArgs false

/-- A block of the law's own, that is none of the beat's. -/
structure BXs (wr : World) (C : Nat → Prop) (cb : Nat) (o : Obj) : Prop where
  at_ : wr.heap[cb]? = some o
  nb : ¬ C cb
theorem BXs.step {wr w1 : World} {C C' : Nat → Prop} {cb : Nat} {o : Obj} (h : BXs wr C cb o) (hS : Step wr w1 C C') : BXs w1 C' cb o := ⟨hS.blk h.at_ h.nb, hS.nb (lt_of_blk h.at_) h.nb⟩
theorem BXs.still {wr w1 : World} {C : Nat → Prop} {cb : Nat} {o : Obj} (h : BXs wr C cb o) (hk : Kept [] wr w1) : BXs w1 C cb o := ⟨hk.blk h.at_ (by simp), h.nb⟩
/-- When one's own beats are due: behind i ticks the next is at 1 + beat * q. -/
structure Due (beat i q D : Nat) : Prop where
  d : D = 1 + beat * q
  lo : i ≤ beat * q
  hi : beat * q < i + beat
theorem Due.zero {beat : Nat} (h : 1 ≤ beat) : Due beat 0 0 1 := ⟨by simp, by simp, by simp; omega⟩
theorem Due.now {beat i q D : Nat} (h : Due beat i q D) : D = i + 1 ↔ i % beat = 0 := by
  have h1 := h.d
  have h2 := h.lo
  have h3 := h.hi
  constructor
  · intro e
    have : i = beat * q := by omega
    rw [this]
    exact Nat.mul_mod_right _ _
  · intro e
    have h4 : beat * (i / beat) = i := by have := Nat.div_add_mod i beat; omega
    have h5 : i / beat = q := by
      rcases Nat.lt_trichotomy (i / beat) q with h6 | h6 | h6
      · have : beat * (i / beat + 1) ≤ beat * q := Nat.mul_le_mul_left _ h6
        rw [Nat.mul_add] at this
        omega
      · exact h6
      · have : beat * (q + 1) ≤ beat * (i / beat) := Nat.mul_le_mul_left _ h6
        rw [Nat.mul_add] at this
        omega
    rw [← h5, h4] at h1
    omega
theorem Due.step {beat i q D : Nat} (h : Due beat i q D) (hb : 1 ≤ beat) : Due beat (i + 1) (if i % beat = 0 then q + 1 else q) (if D = i + 1 then i + 1 + beat else D) := by
  have h1 := h.d
  have h2 := h.lo
  have h3 := h.hi
  by_cases e : i % beat = 0
  · have e2 := h.now.2 e
    rw [if_pos e, if_pos e2]
    exact ⟨by rw [Nat.mul_add]; omega, by rw [Nat.mul_add]; omega, by rw [Nat.mul_add]; omega⟩
  · have e2 : ¬ D = i + 1 := fun x => e (h.now.1 x)
    rw [if_neg e, if_neg e2]
    exact ⟨h1, by omega, by omega⟩
theorem Due.last {beat i q D : Nat} (h : Due beat i q D) (hb : 1 ≤ beat) : (i + beat - 1) / beat = q := by
  have h2 := h.lo
  have h3 := h.hi
  refine Nat.div_eq_of_lt_le ?_ ?_
  · rw [Nat.mul_comm]; omega
  · rw [Nat.mul_comm, Nat.mul_add]; omega
theorem conf_nat (a m : Int) (lo : Int) (hm : 0 < m) (hlo : 0 ≤ lo) : ∃ n : Nat, (n : Int) = lo + a % m := ⟨(lo + a % m).toNat, by have := Int.emod_nonneg a (b := m) (by omega); omega⟩
namespace BeatOwn
set_option maxRecDepth 100000 in
set_option maxHeartbeats 4000000 in
theorem walk (w : World) (a : Int) (ha : 0 ≤ a ∧ a ≤ 255) (b : Int) (hb : 0 ≤ b ∧ b ≤ 255) (c : Int) (hc : 0 ≤ c ∧ c ≤ 255) (ad : Option Addr) (n cap : Nat) (xs : List Value) (hs : Sl w (.slice ad n cap) xs) (ho : ∀ x ∈ xs, ∃ n : Int, x = .int .u8 n ∧ (Lit.int .u8 n).wf = true) (t0 : Int) (ht0 : 0 ≤ t0 ∧ t0 ≤ 255) :
    Calls Try.prog 7 #[.int .u8 a, .int .u8 b, .int .u8 c, .slice ad n cap, .int .u8 t0] w fun e w' => e = .returned (.bool true) ∧ Kept [] w w' := by
  obtain ⟨hn, hcap, hmax⟩ := hs.len
  subst hn
  unfold maxLen at hmax
  obtain ⟨T, rfl⟩ : ∃ T : Nat, t0 = (T : Int) := ⟨t0.toNat, by omega⟩
  obtain ⟨t1, t2⟩ := ht0
  obtain ⟨nn, hnn⟩ := conf_nat a 16 1 (by omega) (by omega)
  obtain ⟨bt, hbt⟩ := conf_nat b 6 1 (by omega) (by omega)
  obtain ⟨ms, hms⟩ := conf_nat c 12 ((bt : Int) + 1) (by omega) (by omega)
  have HF := hid (okForm_conf nn bt ms b c a hnn hbt hms)
  have HCF := hid (config_any a b c ha hb hc nn bt ms hnn hbt hms)
  have hnn16 : 1 ≤ nn ∧ nn ≤ 16 := by omega
  have hbt6 : 1 ≤ bt ∧ bt ≤ 6 := by omega
  have hms20 : ms ≤ 18 ∧ 1 ≤ ms := by omega
  obtain ⟨g1, g2⟩ := hnn16
  obtain ⟨g3, g4⟩ := hbt6
  obtain ⟨g5, g6⟩ := hms20
  have hbi1 : (1 : Int) ≤ (bt : Int) := by omega
  have hbi2 : (bt : Int) ≤ 6 := by omega
  have hbi0 : ¬ (bt : Int) = 0 := by omega
  clear hnn hbt hms ha hb hc
  go_enter Try.func7, Try.ntmps7
  go_wp2_with fail
  refine (awake_true w).mono ?_
  rintro e w1 ⟨rfl, hK1⟩
  go_wp2_with fail
  refine (HCF.out w1).mono ?_
  rintro e w2 ⟨rfl, hK2⟩
  have K2 := hid (hK1.trans hK2)
  have HBX := hid (blk_alloc_new w2 (cfgO (nn : Int) (bt : Int) (ms : Int) 1 1 1))
  clear hK1 hK2
  unfold cfg
  go_wp2_with fail
  refine (beat_new nn 0 bt ms 1 1 1 HF.out (by omega) _).mono ?_
  rintro e w3 ⟨bb, C, ev, rfl, hT, hK3, hC⟩
  have HT := hid hT
  have HB := hid (⟨hK3.blk HBX.out (by simp), fun h => by have := hC _ h; simp at this; omega⟩ : BXs w3 C w2.heap.size (cfgO (nn : Int) (bt : Int) (ms : Int) 1 1 1))
  have HK := hid ((K2.out.trans (kept_new _)).trans hK3)
  have HC := hid (fun k hk => by have h1 := hC k hk; have h2 := K2.out.size; simp at h1; omega : ∀ k, C k → w.heap.size ≤ k)
  clear hT hK3 hC K2 HBX
  go_wp2_with fail
  obtain ⟨cb, hcb⟩ : ∃ cb, cb = w2.heap.size := ⟨_, rfl⟩
  rw [← hcb] at HB ⊢
  clear hcb
  go_loopw [14, 15] (fun nv iv wr => ∃ (i q n D ev : Nat) (C : Nat → Prop) (H : Nat → Nat), i ≤ T ∧ n ≤ 1 + 2 * i ∧ Due bt i q D ∧ q ≤ i ∧ nv = .int .i64 (q : Int) ∧ iv = .int .i64 (i : Int) ∧ BT wr bb C nn 0 bt ms i n D H ev ∧ BXs wr C cb (cfgO (nn : Int) (bt : Int) (ms : Int) 1 1 1) ∧ Kept [] w wr ∧ (∀ k, C k → w.heap.size ≤ k)) (fun _ iv _ => T - (intOf iv).toNat)
  case atStart => exact ⟨0, 0, 1, 1, ev, C, _, by omega, by omega, Due.zero g3, by omega, rfl, rfl, HT.out, HB.out, HK.out, HC.out⟩
  case round =>
    clear HT HB HK HC
    obtain ⟨i, q, n, D, ev, C, H, hi, hn, hdue, hq, rfl, rfl, hT, hB, hK, hC⟩ := hrel
    have HT := hid hT
    have HB := hid hB
    have HK := hid hK
    have HC := hid hC
    have HDU := hid hdue
    clear hT hB hK hC hdue
    have hqi : (q : Int) ≤ 255 := by omega
    by_cases hlt : i < T
    · have hlti : (i : Int) < (T : Int) := by omega
      by_cases hh : i < xs.length
      · have hhi : (i : Int) < (xs.length : Int) := by omega
        obtain ⟨g, off, rfl, hcl⟩ := (hs.old HK.out (by simp)).cell hh
        obtain ⟨y, hy, wy⟩ := ho _ (List.getElem_mem hh)
        rw [hy] at hcl
        obtain ⟨u1, v1⟩ := bounds_u8 wy
        obtain ⟨J, hJ⟩ : ∃ J : Nat, y % 20 = (J : Int) := ⟨(y % 20).toNat, by omega⟩
        clear hy wy
        by_cases hok : J < nn ∧ J ≠ 0
        · obtain ⟨hok1, hok2⟩ := hok
          go_wp2_with fail
          refine (heard_ok HT.out J hok1 hok2 (by omega) (by omega)).mono ?_
          rintro e w4 ⟨rfl, C4, e4, hT4, hS4⟩
          obtain ⟨hK4, hC4⟩ := hS4.base HK.out HC.out
          have HT4 := hid hT4
          have HB4 := hid (HB.out.step hS4)
          have HK4 := hid hK4
          have HC4 := hid hC4
          clear hT4 hS4 hK4 hC4 HT HB HK HC hcl hJ
          go_wp2_with fail
          refine (beat_tick HT4.out (by omega) (by omega)).mono ?_
          rintro e w5 ⟨rfl, C5, e5, n5, hn5, hT5, hS5⟩
          obtain ⟨hK5, hC5⟩ := hS5.base HK4.out HC4.out
          have HT5 := hid hT5
          have HB5 := hid (HB4.out.step hS5)
          have HK5 := hid hK5
          have HC5 := hid hC5
          have HDU5 := hid (HDU.out.step g3)
          have d1 : w5.cell? ⟨cb, 1, none⟩ = some (.int .i64 (bt : Int)) := (cell_of HB5.out.at_).trans rfl
          clear hT5 hS5 hK5 hC5 HT4 HB4 HK4 HC4
          by_cases hm : i % bt = 0
          · have hD := HDU.out.now.2 hm
            have hmi : ((i : Int) % (bt : Int) != 0) = false := by simp; omega
            have hdu := HDU5.out
            rw [if_pos hm] at hdu
            have HDU6 := hid hdu
            have hdec : decide (D = i + 1) = true := by simp [hD]
            clear hdu hm hD
            rw [hdec]
            go_wp2_with fail
            go_roundw
            case rel => exact ⟨i + 1, q + 1, n5, _, e5, C5, _, by omega, by omega, HDU6.out, by omega, by go_num, by go_num, HT5.out, HB5.out, HK5.out, HC5.out⟩
            case measure => simp [intOf]; omega
          · have hD : ¬ D = i + 1 := fun e => hm (HDU.out.now.1 e)
            have hdu := HDU5.out
            rw [if_neg hm] at hdu
            have HDU6 := hid hdu
            have hdec : decide (D = i + 1) = false := by simp [hD]
            clear hdu hm hD
            rw [hdec]
            go_wp2_with fail
            go_roundw
            case rel => exact ⟨i + 1, q, n5, _, e5, C5, _, by omega, by omega, HDU6.out, by omega, by go_num, by go_num, HT5.out, HB5.out, HK5.out, HC5.out⟩
            case measure => simp [intOf]; omega
        · have HOK := hid hok
          clear hok
          go_wp2_with fail
          refine (heard_bad HT.out (J : Int) (by have := HOK.out; omega)).mono ?_
          rintro e w4 ⟨rfl, rfl⟩
          have HT4 := hid HT.out
          have HB4 := hid HB.out
          have HK4 := hid HK.out
          have HC4 := hid HC.out
          clear HT HB HK HC hcl hJ
          go_wp2_with fail
          refine (beat_tick HT4.out (by omega) (by omega)).mono ?_
          rintro e w5 ⟨rfl, C5, e5, n5, hn5, hT5, hS5⟩
          obtain ⟨hK5, hC5⟩ := hS5.base HK4.out HC4.out
          have HT5 := hid hT5
          have HB5 := hid (HB4.out.step hS5)
          have HK5 := hid hK5
          have HC5 := hid hC5
          have HDU5 := hid (HDU.out.step g3)
          have d1 : w5.cell? ⟨cb, 1, none⟩ = some (.int .i64 (bt : Int)) := (cell_of HB5.out.at_).trans rfl
          clear hT5 hS5 hK5 hC5 HT4 HB4 HK4 HC4
          by_cases hm : i % bt = 0
          · have hD := HDU.out.now.2 hm
            have hmi : ((i : Int) % (bt : Int) != 0) = false := by simp; omega
            have hdu := HDU5.out
            rw [if_pos hm] at hdu
            have HDU6 := hid hdu
            have hdec : decide (D = i + 1) = true := by simp [hD]
            clear hdu hm hD
            rw [hdec]
            go_wp2_with fail
            go_roundw
            case rel => exact ⟨i + 1, q + 1, n5, _, e5, C5, _, by omega, by omega, HDU6.out, by omega, by go_num, by go_num, HT5.out, HB5.out, HK5.out, HC5.out⟩
            case measure => simp [intOf]; omega
          · have hD : ¬ D = i + 1 := fun e => hm (HDU.out.now.1 e)
            have hdu := HDU5.out
            rw [if_neg hm] at hdu
            have HDU6 := hid hdu
            have hdec : decide (D = i + 1) = false := by simp [hD]
            clear hdu hm hD
            rw [hdec]
            go_wp2_with fail
            go_roundw
            case rel => exact ⟨i + 1, q, n5, _, e5, C5, _, by omega, by omega, HDU6.out, by omega, by go_num, by go_num, HT5.out, HB5.out, HK5.out, HC5.out⟩
            case measure => simp [intOf]; omega
      · have hhi : ¬ (i : Int) < (xs.length : Int) := by omega
        have HT4 := hid HT.out
        have HB4 := hid HB.out
        have HK4 := hid HK.out
        have HC4 := hid HC.out
        clear HT HB HK HC
        go_wp2_with fail
        refine (beat_tick HT4.out (by omega) (by omega)).mono ?_
        rintro e w5 ⟨rfl, C5, e5, n5, hn5, hT5, hS5⟩
        obtain ⟨hK5, hC5⟩ := hS5.base HK4.out HC4.out
        have HT5 := hid hT5
        have HB5 := hid (HB4.out.step hS5)
        have HK5 := hid hK5
        have HC5 := hid hC5
        have HDU5 := hid (HDU.out.step g3)
        have d1 : w5.cell? ⟨cb, 1, none⟩ = some (.int .i64 (bt : Int)) := (cell_of HB5.out.at_).trans rfl
        clear hT5 hS5 hK5 hC5 HT4 HB4 HK4 HC4
        by_cases hm : i % bt = 0
        · have hD := HDU.out.now.2 hm
          have hmi : ((i : Int) % (bt : Int) != 0) = false := by simp; omega
          have hdu := HDU5.out
          rw [if_pos hm] at hdu
          have HDU6 := hid hdu
          have hdec : decide (D = i + 1) = true := by simp [hD]
          clear hdu hm hD
          rw [hdec]
          go_wp2_with fail
          go_roundw
          case rel => exact ⟨i + 1, q + 1, n5, _, e5, C5, _, by omega, by omega, HDU6.out, by omega, by go_num, by go_num, HT5.out, HB5.out, HK5.out, HC5.out⟩
          case measure => simp [intOf]; omega
        · have hD : ¬ D = i + 1 := fun e => hm (HDU.out.now.1 e)
          have hdu := HDU5.out
          rw [if_neg hm] at hdu
          have HDU6 := hid hdu
          have hdec : decide (D = i + 1) = false := by simp [hD]
          clear hdu hm hD
          rw [hdec]
          go_wp2_with fail
          go_roundw
          case rel => exact ⟨i + 1, q, n5, _, e5, C5, _, by omega, by omega, HDU6.out, by omega, by go_num, by go_num, HT5.out, HB5.out, HK5.out, HC5.out⟩
          case measure => simp [intOf]; omega
    · obtain rfl : i = T := by omega
      have d1 : wr.cell? ⟨cb, 1, none⟩ = some (.int .i64 (bt : Int)) := (cell_of HB.out.at_).trans rfl
      have hlast := HDU.out.last g3
      have hli : ((i : Int) + (bt : Int) - 1) / (bt : Int) = (q : Int) := by
        rw [← hlast]
        have : (i : Int) + (bt : Int) - 1 = ((i + bt - 1 : Nat) : Int) := by omega
        rw [this]
        simp
      clear hlast
      go_wp2
      go_ret
      exact ⟨rfl, HK.out⟩
end BeatOwn
end Go.Proofs.Ytkemkoiknoefdaa
