/- WheelShift answers true: the walk. -/
import Derived.Test.YtdnaeebehkplpaaWheelErrs
import Derived.Test.YtdnaeebehkplpaaArgs
import Derived.Deep.RegionHeld3
namespace Go.Proofs.Ytdnaeebehkplpaa
open Go.RowKit
set_option linter.unusedVariables false
set_option linter.unusedSimpArgs false
theorem Step.blk {w w' : World} {B B' : Nat → Prop} (h : Step w w' B B') {k : Nat} {o : Obj} (hk : w.heap[k]? = some o) (hB : ¬ B k) : w'.heap[k]? = some o := by
  obtain ⟨S, h1, h2, h3⟩ := h
  exact h1.blk hk (fun hm => (h2 k hm).elim hB (fun hge => by have := lt_of_blk hk; omega))
theorem Calls_quiet_at {P : Program} {f : FuncId} {args : Array Value} {w : World} {n nq : Nat} {v : Value}
    (h : Calls P f args (w.drewN (nq + n)) fun e w' => e = .returned v ∧ ∃ m, w' = (w.drewN (nq + n)).drewN m) : Calls P f args (w.drewN (nq + n)) fun e w'' => e = .returned v ∧ ∃ m, w'' = w.drewN (nq + m) :=
  h.mono fun _ _ ⟨he, m, hm⟩ => ⟨he, n + m, by rw [hm, World.drewN_drewN, Nat.add_assoc]⟩
theorem Calls_quiet_at_same {P : Program} {f : FuncId} {args : Array Value} {w : World} {n nq : Nat} {v : Value}
    (h : Calls P f args (w.drewN (nq + n)) fun e w' => e = .returned v ∧ w' = w.drewN (nq + n)) : Calls P f args (w.drewN (nq + n)) fun e w'' => e = .returned v ∧ ∃ m, w'' = w.drewN (nq + m) :=
  h.mono fun _ _ ⟨he, hm⟩ => ⟨he, n, hm⟩
/-- Two wheels, apart, both made since w. -/
structure T2 (w wr : World) (bv : Nat) (Bv : Nat → Prop) (nv mv : Nat) (Lv : List Tm) (bw : Nat) (Bw : Nat → Prop) (nw mw : Nat) (Lw : List Tm) : Prop where
  av : WR wr bv Bv nv mv Lv
  aw : WR wr bw Bw nw mw Lw
  ap : ∀ k, Bv k → ¬ Bw k
  kp : Kept [] w wr
  lv : ∀ k, Bv k → w.heap.size ≤ k
  lw : ∀ k, Bw k → w.heap.size ≤ k
theorem T2.left {w wr w1 : World} {bv nv mv bw nw mw nv' mv' : Nat} {Bv Bw Bv' : Nat → Prop} {Lv Lw Lv' : List Tm} (h : T2 w wr bv Bv nv mv Lv bw Bw nw mw Lw) (hS : Step wr w1 Bv Bv') (hv : WR w1 bv Bv' nv' mv' Lv') : T2 w w1 bv Bv' nv' mv' Lv' bw Bw nw mw Lw := by
  obtain ⟨h1, h2⟩ := hS.base h.kp h.lv
  exact ⟨hv, h.aw.beside hS (fun k hb hv => h.ap k hv hb), hS.apart (fun k hk => h.aw.lt hk) h.ap, h1, h2, h.lw⟩
theorem T2.right {w wr w1 : World} {bv nv mv bw nw mw nw' mw' : Nat} {Bv Bw Bw' : Nat → Prop} {Lv Lw Lw' : List Tm} (h : T2 w wr bv Bv nv mv Lv bw Bw nw mw Lw) (hS : Step wr w1 Bw Bw') (hw : WR w1 bw Bw' nw' mw' Lw') : T2 w w1 bv Bv nv mv Lv bw Bw' nw' mw' Lw' := by
  obtain ⟨h1, h2⟩ := hS.base h.kp h.lw
  exact ⟨h.av.beside hS h.ap, hw, fun k hv hw => hS.apart (fun k hk => h.av.lt hk) (fun k hb hv => h.ap k hv hb) k hw hv, h1, h.lv, h2⟩
theorem T2.still {w wr w1 : World} {bv nv mv bw nw mw : Nat} {Bv Bw : Nat → Prop} {Lv Lw : List Tm} (h : T2 w wr bv Bv nv mv Lv bw Bw nw mw Lw) (hk : Kept [] wr w1) : T2 w w1 bv Bv nv mv Lv bw Bw nw mw Lw :=
  ⟨h.av.still hk, h.aw.still hk, h.ap, h.kp.trans hk, h.lv, h.lw⟩
theorem Sl.step {base : Nat} {E : TypeId} {w w' : World} {v : Value} {xs : List Value} {B B' : Nat → Prop} (h : OwnL base E w v xs) (hS : Step w w' B B') (hB : ∀ k, B k → k < w.heap.size) (hv : ∀ k, v.ownBlock = some k → ¬ B k) : Sl w' v xs := by
  obtain ⟨S, h1, h2, h3⟩ := hS
  refine h.sl.kept h1 (fun k hk hm => ?_)
  rcases h2 k hm with h4 | h4
  · exact hv k hk h4
  · have := (h.lt k hk).2; omega
namespace WheelShift
/-- The timers, told from another beginning. -/
def sh (a : Nat) (R : List Tm) : List Tm := R.map fun t => ⟨a + t.due, t.id, t.n⟩
theorem sh_filter (a : Nat) (R : List Tm) (P Q : Tm → Bool) (h : ∀ t ∈ R, P ⟨a + t.due, t.id, t.n⟩ = Q t) : (sh a R).filter P = sh a (R.filter Q) := by
  unfold sh
  rw [List.filter_map]
  congr 1
  exact List.filter_congr fun t ht => h t ht
theorem sh_less (a : Nat) (R : List Tm) (id : Int) : less (sh a R) id = sh a (less R id) := sh_filter a R _ _ (fun t _ => rfl)
theorem sh_dues (a m : Nat) (R : List Tm) : dues (sh a R) (a + m) = sh a (dues R m) := sh_filter a R _ _ (fun t _ => by simp)
theorem sh_late (a m : Nat) (R : List Tm) : late (sh a R) (a + m) = sh a (late R m) := sh_filter a R _ _ (fun t _ => by simp)
theorem sh_len (a : Nat) (R : List Tm) : (sh a R).length = R.length := by simp [sh]
theorem sh_ids (a : Nat) (R : List Tm) : ids (sh a R) = ids R := by simp [sh, ids]
theorem sh_arm (a c k n : Nat) (R : List Tm) (id : Int) : less (sh a R) id ++ [⟨a + c + k, id, n + 1⟩] = sh a (less R id ++ [⟨c + k, id, n + 1⟩]) := by
  rw [sh_less]
  unfold sh
  rw [List.map_append]
  simp [Nat.add_assoc]
theorem sh_id (a : Nat) (R : List Tm) (id : Int) (h : ∃ t ∈ R, t.id = id) : ∃ t ∈ sh a R, t.id = id := by
  obtain ⟨t, ht, e⟩ := h
  exact ⟨_, List.mem_map.2 ⟨t, ht, rfl⟩, e⟩
theorem sh_no (a : Nat) (R : List Tm) (id : Int) (h : ¬ ∃ t ∈ R, t.id = id) : ∀ t ∈ sh a R, t.id ≠ id := fun t ht e => by
  obtain ⟨x, hx, rfl⟩ := List.mem_map.1 ht
  exact h ⟨x, hx, e⟩
set_option maxRecDepth 100000 in
set_option maxHeartbeats 8000000 in
theorem walk (w : World) (a0 : Int) (ha0 : 0 ≤ a0 ∧ a0 ≤ 18446744073709551615) (b0 : Int) (hb0 : 0 ≤ b0 ∧ b0 ≤ 18446744073709551615) (ad : Option Addr) (n cap : Nat) (xs : List (Value × Value × Value)) (hs : Sl3 w (.slice ad n cap) xs) (ho : ∀ x ∈ xs, IsInt .u8 x.1 ∧ IsInt .i64 x.2.1 ∧ IsInt .u64 x.2.2) :
    Calls Try.prog 6 #[.int .u64 a0, .int .u64 b0, .slice ad n cap] w fun e w' => e = .returned (.bool true) ∧ Kept [] w w' := by
  obtain ⟨hn, hcap, hmax⟩ := hs.len
  subst hn
  unfold maxLen at hmax
  obtain ⟨a, rfl⟩ : ∃ a : Nat, a0 = (a : Int) := ⟨a0.toNat, by omega⟩
  obtain ⟨b, rfl⟩ : ∃ b : Nat, b0 = (b : Int) := ⟨b0.toNat, by omega⟩
  obtain ⟨ha1, ha2⟩ := ha0
  obtain ⟨hb1, hb2⟩ := hb0
  by_cases hbad2 : 576460752303423488 < a
  · have hbad' : (576460752303423488 : Int) < (a : Int) := by omega
    go_enter Try.func6, Try.ntmps6
    go_wp2_with fail
    refine (awake_true w).mono ?_
    rintro e w1 ⟨rfl, hK1⟩
    go_wp2_with fail
    refine (awake_true w1).mono ?_
    rintro e w2 ⟨rfl, hK2⟩
    go_wp2_with fail
    go_ret
    exact ⟨rfl, hK1.trans hK2⟩
  have hl2 : ¬ (576460752303423488 : Int) < (a : Int) := by omega
  by_cases hbad3 : 576460752303423488 < b
  · have hbad' : (576460752303423488 : Int) < (b : Int) := by omega
    go_enter Try.func6, Try.ntmps6
    go_wp2_with fail
    refine (awake_true w).mono ?_
    rintro e w1 ⟨rfl, hK1⟩
    go_wp2_with fail
    refine (awake_true w1).mono ?_
    rintro e w2 ⟨rfl, hK2⟩
    go_wp2_with fail
    go_ret
    exact ⟨rfl, hK1.trans hK2⟩
  have hl3 : ¬ (576460752303423488 : Int) < (b : Int) := by omega
  go_enter Try.func6, Try.ntmps6
  go_wp2_with fail
  refine (awake_true w).mono ?_
  rintro e w1 ⟨rfl, hK1⟩
  go_wp2_with fail
  refine (wr_new a w1 (by omega)).mono ?_
  rintro e w2 ⟨bv, Bv, rfl, hR, hK2, hB⟩
  have HV := hid hR
  have HBV := hid hB
  have HK2 := hid hK2
  clear hR hB hK2
  go_wp2_with fail
  refine (wr_new b w2 (by omega)).mono ?_
  rintro e w3 ⟨bw, Bw, rfl, hR, hK3, hB⟩
  have hs1 := hK1.size
  have hs2 := HK2.out.size
  have hT : T2 w w3 bv Bv a 0 [] bw Bw b 0 [] := ⟨HV.out.still hK3, hR, fun k h1 h2 => by have := HV.out.lt h1; have := hB k h2; omega, (hK1.trans HK2.out).trans hK3, fun k hk => by have := HBV.out k hk; omega, fun k hk => by have := hB k hk; omega⟩
  have HT := hid hT
  clear hT hK1 hR hK3 hB HV HBV HK2 hs1 hs2
  go_wp2_with fail
  go_loopw [11, 12, 13, 14, 15, 16, 17, 18] (fun iv u1 u2 u3 u4 u5 u6 u7 wr => ∃ (i c n : Nat) (R : List Tm) (Bv Bw : Nat → Prop), i ≤ xs.length ∧ i ≤ 60 ∧ n ≤ i ∧ c ≤ 199 * i ∧ iv = .int .i64 (i : Int) ∧ T2 w wr bv Bv (a + c) n (sh a R) bw Bw (b + c) n (sh b R)) (fun iv _ _ _ _ _ _ _ _ => xs.length - (intOf iv).toNat)
  case atStart => exact ⟨0, 0, 0, [], Bv, Bw, by omega, by omega, by omega, by omega, rfl, HT.out⟩
  case round =>
    clear HT
    obtain ⟨i, c, n, R, Bv, Bw, hi, hi60, hn, hc, rfl, hT⟩ := hrel
    by_cases hlt : i < xs.length ∧ i < 60
    · obtain ⟨hlt1, hlt2⟩ := hlt
      have hlt2i : (i : Int) < 60 := by omega
      have hlt1i : (i : Int) < (xs.length : Int) := by omega
      obtain ⟨g, off, rfl, c1, c2, c3⟩ := (hs.old hT.kp (by simp)).cell hlt1
      obtain ⟨⟨kd, hk, hkw⟩, ⟨id, hid', hidw⟩, ⟨z, hz, hzw⟩⟩ := ho _ (List.getElem_mem hlt1)
      rw [hk] at c1
      rw [hid'] at c2
      rw [hz] at c3
      obtain ⟨hkb1, hkb2⟩ := bounds_u8 hkw
      obtain ⟨hzb1, hzb2⟩ := bounds_u64 hzw
      obtain ⟨K, hK⟩ : ∃ K : Nat, z % 3000 = (K : Int) := ⟨(z % 3000).toNat, by omega⟩
      have hK3 : K ≤ 2999 := by omega
      have hK3i : (K : Int) ≤ 2999 := by omega
      have hal := kept_new (w := wr) (.cells #[.int .u8 kd, .int .i64 id, .int .u64 z] 43)
      have HT := hid (hT.still hal)
      have HBX := hid (blk_alloc_new wr (.cells #[.int .u8 kd, .int .i64 id, .int .u64 z] 43 (0, 0)))
      have HNV := hid (fun h => by have := hT.av.lt h; omega : ¬ Bv wr.heap.size)
      have HNW := hid (fun h => by have := hT.aw.lt h; omega : ¬ Bw wr.heap.size)
      have HID := hid hidw
      clear hT hk hid' hz hkw hidw hzw hal
      obtain ⟨m6, hm6⟩ : ∃ m6 : Int, kd % 6 = m6 := ⟨_, rfl⟩
      have h6 : m6 = 0 ∨ m6 = 1 ∨ m6 = 2 ∨ m6 = 3 ∨ m6 = 4 ∨ m6 = 5 := by omega
      rcases h6 with rfl | rfl | rfl | rfl | rfl | rfl
      · by_cases hK0 : K = 0
        · subst hK0
          have e1 : ((wr.alloc (.cells #[.int .u8 kd, .int .i64 id, .int .u64 z] 43)).cell? ⟨wr.heap.size, 1, none⟩) = some (.int .i64 id) := (cell_of HBX.out).trans rfl
          go_wp2
          go_region_held3 (fun w' => w'.cell? ⟨wr.heap.size, 1, none⟩ = some (.int .i64 id)) (first | exact e1) (first
            | (go_at_call 12; (with_reducible refine (wr_arm_bad (b := bv) (by exact HT.out.av.still ⟨rfl, rfl, rfl, Nat.le_refl _, fun _ _ _ => rfl⟩) id 0 (by omega) (by omega) (by omega)).mono ?_); rintro e w' ⟨rfl, rfl⟩)
            | (go_at_call 12; (with_reducible refine (wr_arm_bad (b := bw) (by exact HT.out.aw.still ⟨rfl, rfl, rfl, Nat.le_refl _, fun _ _ _ => rfl⟩) id 0 (by omega) (by omega) (by omega)).mono ?_); rintro e w' ⟨rfl, rfl⟩))
          go_wp2_with fail
          go_roundw
          case rel => exact ⟨i + 1, c, n, R, Bv, Bw, by omega, by omega, by omega, by omega, by go_num, HT.out.still ⟨rfl, rfl, rfl, Nat.le_refl _, fun _ _ _ => rfl⟩⟩
          case measure => simp [intOf]; omega
        · have e1 : ((wr.alloc (.cells #[.int .u8 kd, .int .i64 id, .int .u64 z] 43)).cell? ⟨wr.heap.size, 1, none⟩) = some (.int .i64 id) := (cell_of HBX.out).trans rfl
          have HK1 := hid (by omega : 1 ≤ K)
          go_wp2
          go_region_held3 (fun w' => w'.cell? ⟨wr.heap.size, 1, none⟩ = some (.int .i64 id)) (first | exact e1 | exact e2 | exact e3) (first
            | (go_at_call 12; (with_reducible refine (wr_arm (b := bv) (by exact HT.out.av.still ⟨rfl, rfl, rfl, Nat.le_refl _, fun _ _ _ => rfl⟩) id HID.out K HK1.out (by omega) (by omega)).mono ?_); rintro e w4 ⟨rfl, Bv4, hR4, hS⟩; have e2 : w4.cell? ⟨wr.heap.size, 1, none⟩ = some (.int .i64 id) := (cell_of (hS.blk HBX.out HNV.out)).trans rfl; have HT4 := hid ((HT.out.still (w1 := (wr.alloc (.cells #[.int .u8 kd, .int .i64 id, .int .u64 z] 43)).drew) ⟨rfl, rfl, rfl, Nat.le_refl _, fun _ _ _ => rfl⟩).left hS hR4); have HBX4 := hid (hS.blk HBX.out HNV.out); clear hR4 hS)
            | (go_at_call 12; (with_reducible refine (wr_arm (b := bw) (by exact HT4.out.aw.still ⟨rfl, rfl, rfl, Nat.le_refl _, fun _ _ _ => rfl⟩) id HID.out K HK1.out (by omega) (by omega)).mono ?_); rintro e w5 ⟨rfl, Bw5, hR5, hS⟩; have e3 : w5.cell? ⟨wr.heap.size, 1, none⟩ = some (.int .i64 id) := (cell_of (hS.blk HBX4.out HNW.out)).trans rfl; have HT5 := hid (HT4.out.right hS hR5); clear hR5 hS))
          have h5 := HT5.out
          rw [sh_arm, sh_arm] at h5
          have H5 := hid h5
          clear h5 HT5 HT4 e1 e2 e3
          go_wp2_with fail
          go_roundw
          case rel => exact ⟨i + 1, c, n + 1, _, Bv4, Bw5, by omega, by omega, by omega, by omega, by go_num, H5.out⟩
          case measure => simp [intOf]; omega
      · by_cases hK0 : K = 0
        · subst hK0
          have e1 : ((wr.alloc (.cells #[.int .u8 kd, .int .i64 id, .int .u64 z] 43)).cell? ⟨wr.heap.size, 1, none⟩) = some (.int .i64 id) := (cell_of HBX.out).trans rfl
          go_wp2
          go_region_held3 (fun w' => w'.cell? ⟨wr.heap.size, 1, none⟩ = some (.int .i64 id)) (first | exact e1) (first
            | (go_at_call 12; (with_reducible refine (wr_arm_bad (b := bv) (by exact HT.out.av.still ⟨rfl, rfl, rfl, Nat.le_refl _, fun _ _ _ => rfl⟩) id 0 (by omega) (by omega) (by omega)).mono ?_); rintro e w' ⟨rfl, rfl⟩)
            | (go_at_call 12; (with_reducible refine (wr_arm_bad (b := bw) (by exact HT.out.aw.still ⟨rfl, rfl, rfl, Nat.le_refl _, fun _ _ _ => rfl⟩) id 0 (by omega) (by omega) (by omega)).mono ?_); rintro e w' ⟨rfl, rfl⟩))
          go_wp2_with fail
          go_roundw
          case rel => exact ⟨i + 1, c, n, R, Bv, Bw, by omega, by omega, by omega, by omega, by go_num, HT.out.still ⟨rfl, rfl, rfl, Nat.le_refl _, fun _ _ _ => rfl⟩⟩
          case measure => simp [intOf]; omega
        · have e1 : ((wr.alloc (.cells #[.int .u8 kd, .int .i64 id, .int .u64 z] 43)).cell? ⟨wr.heap.size, 1, none⟩) = some (.int .i64 id) := (cell_of HBX.out).trans rfl
          have HK1 := hid (by omega : 1 ≤ K)
          go_wp2
          go_region_held3 (fun w' => w'.cell? ⟨wr.heap.size, 1, none⟩ = some (.int .i64 id)) (first | exact e1 | exact e2 | exact e3) (first
            | (go_at_call 12; (with_reducible refine (wr_arm (b := bv) (by exact HT.out.av.still ⟨rfl, rfl, rfl, Nat.le_refl _, fun _ _ _ => rfl⟩) id HID.out K HK1.out (by omega) (by omega)).mono ?_); rintro e w4 ⟨rfl, Bv4, hR4, hS⟩; have e2 : w4.cell? ⟨wr.heap.size, 1, none⟩ = some (.int .i64 id) := (cell_of (hS.blk HBX.out HNV.out)).trans rfl; have HT4 := hid ((HT.out.still (w1 := (wr.alloc (.cells #[.int .u8 kd, .int .i64 id, .int .u64 z] 43)).drew) ⟨rfl, rfl, rfl, Nat.le_refl _, fun _ _ _ => rfl⟩).left hS hR4); have HBX4 := hid (hS.blk HBX.out HNV.out); clear hR4 hS)
            | (go_at_call 12; (with_reducible refine (wr_arm (b := bw) (by exact HT4.out.aw.still ⟨rfl, rfl, rfl, Nat.le_refl _, fun _ _ _ => rfl⟩) id HID.out K HK1.out (by omega) (by omega)).mono ?_); rintro e w5 ⟨rfl, Bw5, hR5, hS⟩; have e3 : w5.cell? ⟨wr.heap.size, 1, none⟩ = some (.int .i64 id) := (cell_of (hS.blk HBX4.out HNW.out)).trans rfl; have HT5 := hid (HT4.out.right hS hR5); clear hR5 hS))
          have h5 := HT5.out
          rw [sh_arm, sh_arm] at h5
          have H5 := hid h5
          clear h5 HT5 HT4 e1 e2 e3
          go_wp2_with fail
          go_roundw
          case rel => exact ⟨i + 1, c, n + 1, _, Bv4, Bw5, by omega, by omega, by omega, by omega, by go_num, H5.out⟩
          case measure => simp [intOf]; omega
      · by_cases hK0 : K = 0
        · subst hK0
          have e1 : ((wr.alloc (.cells #[.int .u8 kd, .int .i64 id, .int .u64 z] 43)).cell? ⟨wr.heap.size, 1, none⟩) = some (.int .i64 id) := (cell_of HBX.out).trans rfl
          go_wp2
          go_region_held3 (fun w' => w'.cell? ⟨wr.heap.size, 1, none⟩ = some (.int .i64 id)) (first | exact e1) (first
            | (go_at_call 12; (with_reducible refine (wr_arm_bad (b := bv) (by exact HT.out.av.still ⟨rfl, rfl, rfl, Nat.le_refl _, fun _ _ _ => rfl⟩) id 0 (by omega) (by omega) (by omega)).mono ?_); rintro e w' ⟨rfl, rfl⟩)
            | (go_at_call 12; (with_reducible refine (wr_arm_bad (b := bw) (by exact HT.out.aw.still ⟨rfl, rfl, rfl, Nat.le_refl _, fun _ _ _ => rfl⟩) id 0 (by omega) (by omega) (by omega)).mono ?_); rintro e w' ⟨rfl, rfl⟩))
          go_wp2_with fail
          go_roundw
          case rel => exact ⟨i + 1, c, n, R, Bv, Bw, by omega, by omega, by omega, by omega, by go_num, HT.out.still ⟨rfl, rfl, rfl, Nat.le_refl _, fun _ _ _ => rfl⟩⟩
          case measure => simp [intOf]; omega
        · have e1 : ((wr.alloc (.cells #[.int .u8 kd, .int .i64 id, .int .u64 z] 43)).cell? ⟨wr.heap.size, 1, none⟩) = some (.int .i64 id) := (cell_of HBX.out).trans rfl
          have HK1 := hid (by omega : 1 ≤ K)
          go_wp2
          go_region_held3 (fun w' => w'.cell? ⟨wr.heap.size, 1, none⟩ = some (.int .i64 id)) (first | exact e1 | exact e2 | exact e3) (first
            | (go_at_call 12; (with_reducible refine (wr_arm (b := bv) (by exact HT.out.av.still ⟨rfl, rfl, rfl, Nat.le_refl _, fun _ _ _ => rfl⟩) id HID.out K HK1.out (by omega) (by omega)).mono ?_); rintro e w4 ⟨rfl, Bv4, hR4, hS⟩; have e2 : w4.cell? ⟨wr.heap.size, 1, none⟩ = some (.int .i64 id) := (cell_of (hS.blk HBX.out HNV.out)).trans rfl; have HT4 := hid ((HT.out.still (w1 := (wr.alloc (.cells #[.int .u8 kd, .int .i64 id, .int .u64 z] 43)).drew) ⟨rfl, rfl, rfl, Nat.le_refl _, fun _ _ _ => rfl⟩).left hS hR4); have HBX4 := hid (hS.blk HBX.out HNV.out); clear hR4 hS)
            | (go_at_call 12; (with_reducible refine (wr_arm (b := bw) (by exact HT4.out.aw.still ⟨rfl, rfl, rfl, Nat.le_refl _, fun _ _ _ => rfl⟩) id HID.out K HK1.out (by omega) (by omega)).mono ?_); rintro e w5 ⟨rfl, Bw5, hR5, hS⟩; have e3 : w5.cell? ⟨wr.heap.size, 1, none⟩ = some (.int .i64 id) := (cell_of (hS.blk HBX4.out HNW.out)).trans rfl; have HT5 := hid (HT4.out.right hS hR5); clear hR5 hS))
          have h5 := HT5.out
          rw [sh_arm, sh_arm] at h5
          have H5 := hid h5
          clear h5 HT5 HT4 e1 e2 e3
          go_wp2_with fail
          go_roundw
          case rel => exact ⟨i + 1, c, n + 1, _, Bv4, Bw5, by omega, by omega, by omega, by omega, by go_num, H5.out⟩
          case measure => simp [intOf]; omega
      · have e1 : ((wr.alloc (.cells #[.int .u8 kd, .int .i64 id, .int .u64 z] 43)).cell? ⟨wr.heap.size, 1, none⟩) = some (.int .i64 id) := (cell_of HBX.out).trans rfl
        by_cases hR0 : ∃ t ∈ R, t.id = id
        · have HV0 := hid (sh_id a R id hR0)
          have HW0 := hid (sh_id b R id hR0)
          clear hR0
          go_wp2
          go_region_held3 (fun w' => w'.cell? ⟨wr.heap.size, 1, none⟩ = some (.int .i64 id)) (first | exact e1 | exact e2 | exact e3) (first
            | (go_at_call 15; (with_reducible refine (wr_cancel (b := bv) (by exact HT.out.av.still ⟨rfl, rfl, rfl, Nat.le_refl _, fun _ _ _ => rfl⟩) id HID.out HV0.out).mono ?_); rintro e w4 ⟨rfl, hR4, hS⟩; have e2 : w4.cell? ⟨wr.heap.size, 1, none⟩ = some (.int .i64 id) := (cell_of (hS.blk HBX.out HNV.out)).trans rfl; have HT4 := hid ((HT.out.still (w1 := (wr.alloc (.cells #[.int .u8 kd, .int .i64 id, .int .u64 z] 43)).drew) ⟨rfl, rfl, rfl, Nat.le_refl _, fun _ _ _ => rfl⟩).left hS hR4); have HBX4 := hid (hS.blk HBX.out HNV.out); clear hR4 hS)
            | (go_at_call 15; (with_reducible refine (wr_cancel (b := bw) (by exact HT4.out.aw.still ⟨rfl, rfl, rfl, Nat.le_refl _, fun _ _ _ => rfl⟩) id HID.out HW0.out).mono ?_); rintro e w5 ⟨rfl, hR5, hS⟩; have e3 : w5.cell? ⟨wr.heap.size, 1, none⟩ = some (.int .i64 id) := (cell_of (hS.blk HBX4.out HNW.out)).trans rfl; have HT5 := hid (HT4.out.right hS hR5); clear hR5 hS))
          have h5 := HT5.out
          rw [sh_less, sh_less] at h5
          have H5 := hid h5
          clear h5 HT5 HT4 e1 e2 e3
          go_wp2_with fail
          go_roundw
          case rel => exact ⟨i + 1, c, n, _, Bv, Bw, by omega, by omega, by omega, by omega, by go_num, H5.out⟩
          case measure => simp [intOf]; omega
        · have HV0 := hid (sh_no a R id hR0)
          have HW0 := hid (sh_no b R id hR0)
          clear hR0
          go_wp2
          go_region_held3 (fun w' => w'.cell? ⟨wr.heap.size, 1, none⟩ = some (.int .i64 id)) (first | exact e1) (first
            | (go_at_call 15; (with_reducible refine (wr_cancel_none (b := bv) (by exact HT.out.av.still ⟨rfl, rfl, rfl, Nat.le_refl _, fun _ _ _ => rfl⟩) id HID.out HV0.out).mono ?_); rintro e w' ⟨rfl, rfl⟩)
            | (go_at_call 15; (with_reducible refine (wr_cancel_none (b := bw) (by exact HT.out.aw.still ⟨rfl, rfl, rfl, Nat.le_refl _, fun _ _ _ => rfl⟩) id HID.out HW0.out).mono ?_); rintro e w' ⟨rfl, rfl⟩))
          go_wp2_with fail
          go_roundw
          case rel => exact ⟨i + 1, c, n, R, Bv, Bw, by omega, by omega, by omega, by omega, by go_num, HT.out.still ⟨rfl, rfl, rfl, Nat.le_refl _, fun _ _ _ => rfl⟩⟩
          case measure => simp [intOf]; omega
      · obtain ⟨Q, hQ⟩ : ∃ Q : Nat, (K : Int) % 200 = (Q : Int) := ⟨K % 200, by omega⟩
        have hQ199 : Q ≤ 199 := by omega
        have hQi : (Q : Int) ≤ 199 := by omega
        have e1 : ((wr.alloc (.cells #[.int .u8 kd, .int .i64 id, .int .u64 z] 43)).cell? ⟨wr.heap.size, 1, none⟩) = some (.int .i64 id) := (cell_of HBX.out).trans rfl
        clear HBX HNV HNW
        go_wp2
        obtain ⟨wo, hwo⟩ : ∃ wo : World, wo = wr.alloc (.cells #[.int .u8 kd, .int .i64 id, .int .u64 z] 43) := ⟨_, rfl⟩
        rw [← hwo] at HT ⊢
        rw [hK, hm6]
        clear hwo e1
        go_loopw [14, 15, 16, 17, 18] (fun kv u1 u2 u3 u4 wr => ∃ (k : Nat) (R : List Tm) (Bv Bw : Nat → Prop), k ≤ Q ∧ kv = .int .u64 (k : Int) ∧ T2 w wr bv Bv (a + (c + k)) n (sh a R) bw Bw (b + (c + k)) n (sh b R)) (fun kv _ _ _ _ _ => Q - (intOf kv).toNat)
        case atStart => exact ⟨0, R, Bv, Bw, by omega, rfl, HT.out⟩
        case round =>
          clear HT
          obtain ⟨k, R, Bv, Bw, hk, rfl, hT⟩ := hrel
          have HT := hid hT
          clear hT
          by_cases hltk : k < Q
          · have hltki : (k : Int) < (Q : Int) := by omega
            go_wp2_with fail
            refine (wr_tick HT.out.av (by omega)).mono ?_
            rintro e w4 ⟨v4, Bv4, rfl, hO4, hA4, hR4, hS4⟩
            have hT4 := HT.out.left hS4 hR4
            have hs4 := hS4.size
            rw [show a + (c + k) + 1 = a + (c + (k + 1)) by omega, sh_dues, sh_ids] at hO4
            rw [show a + (c + k) + 1 = a + (c + (k + 1)) by omega, sh_late] at hT4
            obtain ⟨a4, c4, rfl, _, hm4⟩ := hO4.form
            have HO4 := hid hO4
            have HT4 := hid hT4
            clear hA4 hR4 hS4 hO4 hT4 hs4
            go_wp2_with fail
            refine (wr_tick HT4.out.aw (by omega)).mono ?_
            rintro e w5 ⟨v5, Bw5, rfl, hO5, hA5, hR5, hS5⟩
            have hT5 := HT4.out.right hS5 hR5
            rw [show b + (c + k) + 1 = b + (c + (k + 1)) by omega, sh_dues, sh_ids] at hO5
            rw [show b + (c + k) + 1 = b + (c + (k + 1)) by omega, sh_late] at hT5
            have HS4 := hid (Sl.step HO4.out hS5 (fun k hk => HT4.out.aw.lt hk) (fun k hk hb => by have := (HO4.out.lt k hk).1; have := HT.out.aw.lt hb; omega))
            obtain ⟨a5, c5, rfl, _, hm5⟩ := hO5.form
            have HS5 := hid hO5.sl
            have HT5 := hid hT5
            clear hA5 hR5 hS5 hO5 hT5 HT4 HO4
            go_wp2_with fail
            refine (same_true _ _ _ _ _ _ _ _ HS4.out HS5.out ids_int).mono ?_
            rintro e w6 ⟨rfl, kd6, rfl⟩
            go_wp2_with fail
            go_roundw
            case rel => exact ⟨k + 1, late R (c + (k + 1)), Bv4, Bw5, by omega, by go_num, HT5.out.still (Kept.drewN [] _ kd6)⟩
            case measure => simp [intOf]; omega
          · obtain rfl : k = Q := by omega
            go_wp2_with fail
            go_roundw
            case rel => exact ⟨i + 1, c + k, n, R, Bv, Bw, by omega, by omega, by omega, by omega, by go_num, HT.out⟩
            case measure => simp [intOf]; omega
      · obtain ⟨Q, hQ⟩ : ∃ Q : Nat, (K : Int) % 200 = (Q : Int) := ⟨K % 200, by omega⟩
        have hQ199 : Q ≤ 199 := by omega
        have hQi : (Q : Int) ≤ 199 := by omega
        have e1 : ((wr.alloc (.cells #[.int .u8 kd, .int .i64 id, .int .u64 z] 43)).cell? ⟨wr.heap.size, 1, none⟩) = some (.int .i64 id) := (cell_of HBX.out).trans rfl
        clear HBX HNV HNW
        go_wp2
        obtain ⟨wo, hwo⟩ : ∃ wo : World, wo = wr.alloc (.cells #[.int .u8 kd, .int .i64 id, .int .u64 z] 43) := ⟨_, rfl⟩
        rw [← hwo] at HT ⊢
        rw [hK, hm6]
        clear hwo e1
        go_loopw [14, 15, 16, 17, 18] (fun kv u1 u2 u3 u4 wr => ∃ (k : Nat) (R : List Tm) (Bv Bw : Nat → Prop), k ≤ Q ∧ kv = .int .u64 (k : Int) ∧ T2 w wr bv Bv (a + (c + k)) n (sh a R) bw Bw (b + (c + k)) n (sh b R)) (fun kv _ _ _ _ _ => Q - (intOf kv).toNat)
        case atStart => exact ⟨0, R, Bv, Bw, by omega, rfl, HT.out⟩
        case round =>
          clear HT
          obtain ⟨k, R, Bv, Bw, hk, rfl, hT⟩ := hrel
          have HT := hid hT
          clear hT
          by_cases hltk : k < Q
          · have hltki : (k : Int) < (Q : Int) := by omega
            go_wp2_with fail
            refine (wr_tick HT.out.av (by omega)).mono ?_
            rintro e w4 ⟨v4, Bv4, rfl, hO4, hA4, hR4, hS4⟩
            have hT4 := HT.out.left hS4 hR4
            have hs4 := hS4.size
            rw [show a + (c + k) + 1 = a + (c + (k + 1)) by omega, sh_dues, sh_ids] at hO4
            rw [show a + (c + k) + 1 = a + (c + (k + 1)) by omega, sh_late] at hT4
            obtain ⟨a4, c4, rfl, _, hm4⟩ := hO4.form
            have HO4 := hid hO4
            have HT4 := hid hT4
            clear hA4 hR4 hS4 hO4 hT4 hs4
            go_wp2_with fail
            refine (wr_tick HT4.out.aw (by omega)).mono ?_
            rintro e w5 ⟨v5, Bw5, rfl, hO5, hA5, hR5, hS5⟩
            have hT5 := HT4.out.right hS5 hR5
            rw [show b + (c + k) + 1 = b + (c + (k + 1)) by omega, sh_dues, sh_ids] at hO5
            rw [show b + (c + k) + 1 = b + (c + (k + 1)) by omega, sh_late] at hT5
            have HS4 := hid (Sl.step HO4.out hS5 (fun k hk => HT4.out.aw.lt hk) (fun k hk hb => by have := (HO4.out.lt k hk).1; have := HT.out.aw.lt hb; omega))
            obtain ⟨a5, c5, rfl, _, hm5⟩ := hO5.form
            have HS5 := hid hO5.sl
            have HT5 := hid hT5
            clear hA5 hR5 hS5 hO5 hT5 HT4 HO4
            go_wp2_with fail
            refine (same_true _ _ _ _ _ _ _ _ HS4.out HS5.out ids_int).mono ?_
            rintro e w6 ⟨rfl, kd6, rfl⟩
            go_wp2_with fail
            go_roundw
            case rel => exact ⟨k + 1, late R (c + (k + 1)), Bv4, Bw5, by omega, by go_num, HT5.out.still (Kept.drewN [] _ kd6)⟩
            case measure => simp [intOf]; omega
          · obtain rfl : k = Q := by omega
            go_wp2_with fail
            go_roundw
            case rel => exact ⟨i + 1, c + k, n, R, Bv, Bw, by omega, by omega, by omega, by omega, by go_num, HT.out⟩
            case measure => simp [intOf]; omega
    · have hex : i = xs.length ∨ (i < xs.length ∧ i = 60) := by omega
      have HT := hid hT
      clear hT hlt
      obtain ⟨na, hna⟩ : ∃ na, na = a + c := ⟨_, rfl⟩
      obtain ⟨nb, hnb⟩ : ∃ nb, nb = b + c := ⟨_, rfl⟩
      have hsa : (na : Int) - (a : Int) = (c : Int) := by omega
      have hsb : (nb : Int) - (b : Int) = (c : Int) := by omega
      have hba : (a : Int) ≤ (na : Int) := by omega
      have hbb : (b : Int) ≤ (nb : Int) := by omega
      have hci : (c : Int) ≤ 11940 := by omega
      have hLV := wr_len HT.out.av
      have hLW := wr_len HT.out.aw
      have hNV := wr_now HT.out.av
      have hNW := wr_now HT.out.aw
      rw [sh_len] at hLV hLW
      rw [← hna] at hNV
      rw [← hnb] at hNW
      have HLV := hid hLV
      have HLW := hid hLW
      have HNV := hid hNV
      have HNW := hid hNW
      clear hLV hLW hNV hNW hna hnb
      rcases hex with hex | ⟨hex1, hex⟩
      all_goals
        subst hex
        go_wp2_with fail
        refine HLV.out.mono ?_
        rintro e w' ⟨rfl, rfl⟩
        go_wp2_with fail
        refine HLW.out.mono ?_
        rintro e w' ⟨rfl, rfl⟩
        go_wp2_with fail
        refine HNV.out.mono ?_
        rintro e w' ⟨rfl, rfl⟩
        go_wp2_with fail
        refine HNW.out.mono ?_
        rintro e w' ⟨rfl, rfl⟩
        go_wp2
        go_ret
        exact ⟨rfl, HT.out.kp⟩
end WheelShift
end Go.Proofs.Ytdnaeebehkplpaa
