/- WheelPlays answers true: the walk. -/
import Derived.Test.YtdnaeebehkplpaaWheelShift
import Derived.Test.YtdnaeebehkplpaaWheelRefC
namespace Go.Proofs.Ytdnaeebehkplpaa
open Go.RowKit
set_option linter.unusedVariables false
set_option linter.unusedSimpArgs false
theorem WR.uniq {w : World} {b now n : Nat} {B : Nat → Prop} {L : List Tm} (h : WR w b B now n L) {x t : Tm} (hx : x ∈ L) (ht : t ∈ L) (e : x.id = t.id) : x = t := by
  obtain ⟨_, _, mb, cnt, d, sz, vs, sl, h1, h2, rfl⟩ := h
  exact apart_inj h2.apart hx ht e
theorem WR.now_le {w : World} {b now n : Nat} {B : Nat → Prop} {L : List Tm} (h : WR w b B now n L) : now ≤ 1152921504606846976 := h.1
theorem WR.ids {w : World} {b now n : Nat} {B : Nat → Prop} {L : List Tm} (h : WR w b B now n L) : L.Pairwise fun x y => x.id ≠ y.id := by
  obtain ⟨_, _, mb, cnt, d, sz, vs, sl, h1, h2, rfl⟩ := h
  exact h2.apart
theorem quiet_var {P : Program} {f : FuncId} {args : Array Value} {w : World} {n : Nat} {v : Value} (h : ∀ W, Kept [] w W → Calls P f args W fun e w' => e = .returned v ∧ W = w') : Calls P f args (w.drewN n) fun e w'' => e = .returned v ∧ ∃ m, w'' = w.drewN m :=
  (h _ (Kept.drewN [] w n)).mono fun _ _ ⟨he, hm⟩ => ⟨he, n, hm.symm⟩
namespace WheelPlays

/-- The wheel and the reference's, apart, made since w, with one tick and the same timers. -/
structure TP (w wr : World) (b : Nat) (B : Nat → Prop) (n1 n2 n : Nat) (L1 L2 : List Tm) (rb : Nat) (v : Value) : Prop where
  wh : WR wr b B n1 n L1
  rf : RF wr rb n2 v L2
  ap : ∀ k, B k → ¬ RB rb v k
  kp : Kept [] w wr
  l1 : ∀ k, B k → w.heap.size ≤ k
  l2 : ∀ k, RB rb v k → w.heap.size ≤ k
theorem TP.left {w wr w1 : World} {b n1 n2 n n1' n' rb : Nat} {B B' : Nat → Prop} {L1 L2 L1' : List Tm} {v : Value} (h : TP w wr b B n1 n2 n L1 L2 rb v) (hS : Step wr w1 B B') (hv : WR w1 b B' n1' n' L1') : TP w w1 b B' n1' n2 n' L1' L2 rb v := by
  obtain ⟨h1, h2⟩ := hS.base h.kp h.l1
  exact ⟨hv, h.rf.beside hS (fun k hb hv => h.ap k hv hb), hS.apart (fun k hk => h.rf.lt hk) h.ap, h1, h2, h.l2⟩
theorem TP.right {w wr w1 : World} {b n1 n2 n n2' rb : Nat} {B : Nat → Prop} {L1 L2 L2' : List Tm} {v v' : Value} (h : TP w wr b B n1 n2 n L1 L2 rb v) (hS : Step wr w1 (RB rb v) (RB rb v')) (hw : RF w1 rb n2' v' L2') : TP w w1 b B n1 n2' n L1 L2' rb v' := by
  obtain ⟨h1, h2⟩ := hS.base h.kp h.l2
  exact ⟨h.wh.beside hS h.ap, hw, fun k hv hw => hS.apart (fun k hk => h.wh.lt hk) (fun k hb hv => h.ap k hv hb) k hw hv, h1, h.l1, h2⟩
theorem TP.still {w wr w1 : World} {b n1 n2 n rb : Nat} {B : Nat → Prop} {L1 L2 : List Tm} {v : Value} (h : TP w wr b B n1 n2 n L1 L2 rb v) (hk : Kept [] wr w1) : TP w w1 b B n1 n2 n L1 L2 rb v :=
  ⟨h.wh.still hk, h.rf.still hk, h.ap, h.kp.trans hk, h.l1, h.l2⟩
/-- A block of another's stands in the world. -/
structure Bx (wr : World) (B : Nat → Prop) (rb : Nat) (v : Value) (bx : Nat) (o : Obj) : Prop where
  at_ : wr.heap[bx]? = some o
  nb : ¬ B bx
  nr : ¬ RB rb v bx
theorem Bx.left {wr w1 : World} {B B' : Nat → Prop} {rb bx : Nat} {v : Value} {o : Obj} (h : Bx wr B rb v bx o) (hS : Step wr w1 B B') : Bx w1 B' rb v bx o :=
  ⟨hS.blk h.at_ h.nb, fun hb => by obtain ⟨S, h1, h2, h3⟩ := hS; exact (h3 _ hb).elim h.nb (fun hge => by have := lt_of_blk h.at_; omega), h.nr⟩
theorem Bx.right {wr w1 : World} {B : Nat → Prop} {rb bx : Nat} {v v' : Value} {o : Obj} (h : Bx wr B rb v bx o) (hS : Step wr w1 (RB rb v) (RB rb v')) : Bx w1 B rb v' bx o :=
  ⟨hS.blk h.at_ h.nr, h.nb, fun hb => by obtain ⟨S, h1, h2, h3⟩ := hS; exact (h3 _ hb).elim h.nr (fun hge => by have := lt_of_blk h.at_; omega)⟩
theorem Bx.still {wr w1 : World} {B : Nat → Prop} {rb bx : Nat} {v : Value} {o : Obj} (h : Bx wr B rb v bx o) (hk : Kept [] wr w1) : Bx w1 B rb v bx o := ⟨hk.blk h.at_ (by simp), h.nb, h.nr⟩
theorem less_le (L : List Tm) (id : Int) : (less L id).length ≤ L.length := List.length_filter_le _ _
theorem late_le (L : List Tm) (m : Nat) : (late L m).length ≤ L.length := List.length_filter_le _ _
set_option maxRecDepth 100000 in
set_option maxHeartbeats 16000000 in
theorem walk (w : World) (now0 : Int) (hn0 : 0 ≤ now0 ∧ now0 ≤ 18446744073709551615) (ad : Option Addr) (n cap : Nat) (xs : List (Value × Value × Value)) (hs : Sl3 w (.slice ad n cap) xs) (ho : ∀ x ∈ xs, IsInt .u8 x.1 ∧ IsInt .i64 x.2.1 ∧ IsInt .u64 x.2.2) :
    Calls Try.prog 8 #[.int .u64 now0, .slice ad n cap] w fun e w' => e = .returned (.bool true) ∧ Kept [] w w' := by
  obtain ⟨hn, hcap, hmax⟩ := hs.len
  subst hn
  unfold maxLen at hmax
  obtain ⟨now, rfl⟩ : ∃ now : Nat, now0 = (now : Int) := ⟨now0.toNat, by omega⟩
  obtain ⟨hn1, hn2⟩ := hn0
  by_cases hbad : 1152921504606846976 < now
  · have hbad' : (1152921504606846976 : Int) < (now : Int) := by omega
    go_enter Try.func8, Try.ntmps8
    go_wp2_with fail
    refine (awake_true w).mono ?_
    rintro e w1 ⟨rfl, hK1⟩
    go_wp2_with fail
    refine (new_bad (now : Int) w1 hbad').mono ?_
    rintro e w2 ⟨rfl, rfl⟩
    go_wp2
    go_ret
    exact ⟨rfl, hK1⟩
  have hl2 : ¬ (1152921504606846976 : Int) < (now : Int) := by omega
  go_enter Try.func8, Try.ntmps8
  go_wp2_with fail
  refine (awake_true w).mono ?_
  rintro e w1 ⟨rfl, hK1⟩
  go_wp2_with fail
  refine (wr_new now w1 (by omega)).mono ?_
  rintro e w2 ⟨b, B, rfl, hR, hK2, hB⟩
  have hs1 := hK1.size
  have hk := (Kept.refl [] w2).alloc (.cells #[.int .u64 (now : Int), .slice none 0 0] 53)
  have hT : TP w (w2.alloc (.cells #[.int .u64 (now : Int), .slice none 0 0] 53)) b B now now 0 [] [] w2.heap.size (.slice none 0 0) := by
    have hs2 := hK2.size
    refine ⟨hR.still hk, ⟨blk_alloc_new w2 _, Own.nil _ _ _ _, by simp [Value.ownBlock]⟩, fun k hb hr => ?_, (hK1.trans hK2).trans hk, fun k hb => by have := hB k hb; omega, fun k hr => ?_⟩
    · rcases hr with rfl | hr
      · have := hR.lt hb; omega
      · cases hr
    · rcases hr with rfl | hr
      · omega
      · cases hr
  have HT := hid hT
  clear hT hk hK1 hR hK2 hB hs1
  go_wp2
  obtain ⟨w3, hw3⟩ : ∃ w3 : World, w3 = w2.alloc (.cells #[.int .u64 (now : Int), .slice none 0 0] 53) := ⟨_, rfl⟩
  rw [← hw3] at HT ⊢
  obtain ⟨rb, hrb⟩ : ∃ rb, rb = w2.heap.size := ⟨_, rfl⟩
  rw [← hrb] at HT ⊢
  clear hw3 hrb
  go_loopw [8, 9, 10, 11, 12, 13, 14, 15, 16, 17, 18, 19] (fun iv u1 u2 u3 u4 u5 u6 u7 u8 u9 u10 u11 wr => ∃ (i m n : Nat) (L : List Tm) (B : Nat → Prop) (v : Value), i ≤ xs.length ∧ i ≤ 80 ∧ n ≤ i ∧ L.length ≤ i ∧ iv = .int .i64 (i : Int) ∧ TP w wr b B m m n L L rb v) (fun iv _ _ _ _ _ _ _ _ _ _ _ _ => xs.length - (intOf iv).toNat)
  case atStart => exact ⟨0, now, 0, [], B, _, by omega, by omega, by omega, by simp, rfl, HT.out⟩
  case round =>
    clear HT
    obtain ⟨i, now, n, L, B, v, hi, hi80, hn, hL, rfl, hT⟩ := hrel
    by_cases hlt : i < xs.length ∧ i < 80
    · obtain ⟨hlt1, hlt2⟩ := hlt
      have hlt2i : (i : Int) < 80 := by omega
      have hlt1i : (i : Int) < (xs.length : Int) := by omega
      obtain ⟨g, off, rfl, c1, c2, c3⟩ := (hs.old hT.kp (by simp)).cell hlt1
      obtain ⟨⟨kd, hk, hkw⟩, ⟨id, hid', hidw⟩, ⟨z, hz, hzw⟩⟩ := ho _ (List.getElem_mem hlt1)
      rw [hk] at c1
      rw [hid'] at c2
      rw [hz] at c3
      obtain ⟨hkb1, hkb2⟩ := bounds_u8 hkw
      obtain ⟨hzb1, hzb2⟩ := bounds_u64 hzw
      obtain ⟨K, rfl⟩ : ∃ K : Nat, z = (K : Int) := ⟨z.toNat, by omega⟩
      have hal := kept_new (w := wr) (.cells #[.int .u8 kd, .int .i64 id, .int .u64 (K : Int)] 43)
      have HT := hid (hT.still hal)
      have HBX := hid (⟨blk_alloc_new wr _, fun h => by have := hT.wh.lt h; omega, fun h => by have := hT.rf.lt h; omega⟩ : Bx (wr.alloc (.cells #[.int .u8 kd, .int .i64 id, .int .u64 (K : Int)] 43)) B rb v wr.heap.size (.cells #[.int .u8 kd, .int .i64 id, .int .u64 (K : Int)] 43 (0, 0)))
      have HID := hid hidw
      have HNOW := hid hT.wh.now_le
      obtain ⟨bx, hbx⟩ : ∃ bx, bx = wr.heap.size := ⟨_, rfl⟩
      have f0 : (wr.alloc (.cells #[.int .u8 kd, .int .i64 id, .int .u64 (K : Int)] 43)).cell? ⟨wr.heap.size, 0, none⟩ = some (.int .u8 kd) := (cell_of HBX.out.at_).trans rfl
      have f1 : (wr.alloc (.cells #[.int .u8 kd, .int .i64 id, .int .u64 (K : Int)] 43)).cell? ⟨wr.heap.size, 1, none⟩ = some (.int .i64 id) := (cell_of HBX.out.at_).trans rfl
      have f2 : (wr.alloc (.cells #[.int .u8 kd, .int .i64 id, .int .u64 (K : Int)] 43)).cell? ⟨wr.heap.size, 2, none⟩ = some (.int .u64 (K : Int)) := (cell_of HBX.out.at_).trans rfl
      clear hT hk hid' hz hkw hidw hzw hal hbx
      obtain ⟨m6, hm6⟩ : ∃ m6 : Int, kd % 6 = m6 := ⟨_, rfl⟩
      have h6 : m6 = 0 ∨ m6 = 1 ∨ m6 = 2 ∨ m6 = 3 ∨ m6 = 4 ∨ m6 = 5 := by omega
      rcases h6 with rfl | rfl | rfl | rfl | rfl | rfl
      · as_aux_lemma =>
          by_cases hbad2 : K < 1 ∨ 1152921504606846976 < now + K
          · have HB2 := hid hbad2
            clear hbad2
            go_wp2
            go_region_held3 (fun w' => w'.cell? ⟨wr.heap.size, 1, none⟩ = some (.int .i64 id) ∧ w'.cell? ⟨wr.heap.size, 2, none⟩ = some (.int .u64 (K : Int))) (first | exact ⟨f1, f2⟩) (first
              | (go_at_call 12; (with_reducible refine (wr_arm_bad (by exact HT.out.wh.still ⟨rfl, rfl, rfl, Nat.le_refl _, fun _ _ _ => rfl⟩) id (K : Int) (by omega) (by omega) (by have := HB2.out; omega)).mono ?_); rintro e w' ⟨rfl, rfl⟩)
              | (go_at_call 19; (with_reducible refine (rarm_bad (by exact HT.out.rf.still ⟨rfl, rfl, rfl, Nat.le_refl _, fun _ _ _ => rfl⟩) id (K : Int) HNOW.out (by omega) (by omega) (by have := HB2.out; omega)).mono ?_); rintro e w' ⟨rfl, rfl⟩))
            have HT4 := hid (HT.out.still (w1 := (wr.alloc (.cells #[.int .u8 kd, .int .i64 id, .int .u64 (K : Int)] 43)).drew) ⟨rfl, rfl, rfl, Nat.le_refl _, fun _ _ _ => rfl⟩)
            have HBX4 := hid (HBX.out.still (w1 := (wr.alloc (.cells #[.int .u8 kd, .int .i64 id, .int .u64 (K : Int)] 43)).drew) ⟨rfl, rfl, rfl, Nat.le_refl _, fun _ _ _ => rfl⟩)
            obtain ⟨W4, hW4⟩ : ∃ W4, W4 = (wr.alloc (.cells #[.int .u8 kd, .int .i64 id, .int .u64 (K : Int)] 43)).drew := ⟨_, rfl⟩
            rw [← hW4] at HT4 HBX4 ⊢
            clear hW4
            have q1 : (W4).cell? ⟨wr.heap.size, 1, none⟩ = some (.int .i64 id) := (cell_of HBX4.out.at_).trans rfl
            have HLX := hid (by omega : (L).length ≤ i + 1)
            by_cases hex : ∃ t ∈ L, t.id = id
            · obtain ⟨t, ht, hti⟩ := hex
              have HTI := hid (⟨ht, hti⟩ : t ∈ L ∧ t.id = id)
              clear ht hti
              go_wp2_with fail
              refine (wr_due HT4.out.wh HTI.out.1 id HTI.out.2).mono ?_
              rintro e w7 ⟨rfl, hk7⟩
              have q2 : w7.cell? ⟨wr.heap.size, 1, none⟩ = some (.int .i64 id) := (cell_of (HBX4.out.still hk7).at_).trans rfl
              have HT7 := hid (HT4.out.still hk7)
              clear hk7
              go_wp2_with fail
              refine (rdue HT7.out.rf id (by have := HLX.out; omega) (t.due : Int) true (.inl ⟨rfl, t, HTI.out.1, HTI.out.2, rfl, fun x hx e => HT7.out.wh.uniq hx HTI.out.1 (e.trans HTI.out.2.symm)⟩)).mono ?_
              rintro e w8 ⟨rfl, rfl⟩
              have r0 := HT7.out.rf.c0
              have r1 := HT7.out.rf.c1
              obtain ⟨va, vc, hv, _, _⟩ := HT7.out.rf.own.form
              rw [hv] at r1
              clear hv
              go_wp2
              go_quiet ((first
                | (go_at_call 17; exact quiet_var (fun W hk => wr_now (HT7.out.wh.still hk)))
                | (go_at_call 14; exact quiet_var (fun W hk => wr_len (HT7.out.wh.still hk)))))
              go_wp2_with fail
              go_roundw
              case rel => exact ⟨i + 1, now, n, L, B, v, by omega, by omega, by omega, HLX.out, by go_num, HT7.out.still (Kept.drewN [] _ _)⟩
              case measure => simp [intOf]; omega
            · have HNX := hid (fun t ht e => hex ⟨t, ht, e⟩ : ∀ t ∈ L, t.id ≠ id)
              clear hex
              go_wp2_with fail
              refine (wr_due_none HT4.out.wh id HID.out HNX.out).mono ?_
              rintro e w7 ⟨rfl, rfl⟩
              have HT7 := hid HT4.out
              go_wp2_with fail
              refine (rdue HT7.out.rf id (by have := HLX.out; omega) 0 false (.inr ⟨rfl, rfl, HNX.out⟩)).mono ?_
              rintro e w8 ⟨rfl, rfl⟩
              have r0 := HT7.out.rf.c0
              have r1 := HT7.out.rf.c1
              obtain ⟨va, vc, hv, _, _⟩ := HT7.out.rf.own.form
              rw [hv] at r1
              clear hv
              go_wp2
              go_quiet ((first
                | (go_at_call 17; exact quiet_var (fun W hk => wr_now (HT7.out.wh.still hk)))
                | (go_at_call 14; exact quiet_var (fun W hk => wr_len (HT7.out.wh.still hk)))))
              go_wp2_with fail
              go_roundw
              case rel => exact ⟨i + 1, now, n, L, B, v, by omega, by omega, by omega, HLX.out, by go_num, HT7.out.still (Kept.drewN [] _ _)⟩
              case measure => simp [intOf]; omega
          · have HK1 := hid (by omega : 1 ≤ K)
            have HK2 := hid (by omega : now + K ≤ 1152921504606846976)
            clear hbad2
            go_wp2
            go_region_held3 (fun w' => w'.cell? ⟨wr.heap.size, 1, none⟩ = some (.int .i64 id) ∧ w'.cell? ⟨wr.heap.size, 2, none⟩ = some (.int .u64 (K : Int))) (first | exact ⟨f1, f2⟩ | exact ⟨e4a, e4b⟩ | exact ⟨e5a, e5b⟩) (first
              | (go_at_call 12; (with_reducible refine (wr_arm (by exact HT.out.wh.still ⟨rfl, rfl, rfl, Nat.le_refl _, fun _ _ _ => rfl⟩) id HID.out K HK1.out HK2.out (by omega)).mono ?_); rintro e w4 ⟨rfl, B4, hR4, hS⟩; have HT4 := hid ((HT.out.still (w1 := (wr.alloc (.cells #[.int .u8 kd, .int .i64 id, .int .u64 (K : Int)] 43)).drew) ⟨rfl, rfl, rfl, Nat.le_refl _, fun _ _ _ => rfl⟩).left hS hR4); have HBX4 := hid ((HBX.out.still (w1 := (wr.alloc (.cells #[.int .u8 kd, .int .i64 id, .int .u64 (K : Int)] 43)).drew) ⟨rfl, rfl, rfl, Nat.le_refl _, fun _ _ _ => rfl⟩).left hS); have e4a : w4.cell? ⟨wr.heap.size, 1, none⟩ = some (.int .i64 id) := (cell_of HBX4.out.at_).trans rfl; have e4b : w4.cell? ⟨wr.heap.size, 2, none⟩ = some (.int .u64 (K : Int)) := (cell_of HBX4.out.at_).trans rfl; clear hR4 hS)
              | (go_at_call 19; (with_reducible refine (rarm (by exact HT4.out.rf.still ⟨rfl, rfl, rfl, Nat.le_refl _, fun _ _ _ => rfl⟩) id (by omega) K (n + 1) HK1.out HK2.out).mono ?_); rintro e w5 ⟨rfl, v5, hR5, hS⟩; have HT5 := hid (HT4.out.right hS hR5); have HBX5 := hid (HBX4.out.right hS); have e5a : w5.cell? ⟨wr.heap.size, 1, none⟩ = some (.int .i64 id) := (cell_of HBX5.out.at_).trans rfl; have e5b : w5.cell? ⟨wr.heap.size, 2, none⟩ = some (.int .u64 (K : Int)) := (cell_of HBX5.out.at_).trans rfl; clear hR5 hS))
            obtain ⟨L5, hL5⟩ : ∃ L5, L5 = less L id ++ [⟨now + K, id, n + 1⟩] := ⟨_, rfl⟩
            have hLL : L5.length ≤ i + 1 := by rw [hL5, List.length_append]; have := less_le L id; simp; omega
            rw [← hL5] at HT5
            clear hL5 HT4 HBX4 HT HBX e4a e4b e5a e5b
            have q1 : (w5).cell? ⟨wr.heap.size, 1, none⟩ = some (.int .i64 id) := (cell_of HBX5.out.at_).trans rfl
            have HLX := hid (hLL : (L5).length ≤ i + 1)
            by_cases hex : ∃ t ∈ L5, t.id = id
            · obtain ⟨t, ht, hti⟩ := hex
              have HTI := hid (⟨ht, hti⟩ : t ∈ L5 ∧ t.id = id)
              clear ht hti
              go_wp2_with fail
              refine (wr_due HT5.out.wh HTI.out.1 id HTI.out.2).mono ?_
              rintro e w7 ⟨rfl, hk7⟩
              have q2 : w7.cell? ⟨wr.heap.size, 1, none⟩ = some (.int .i64 id) := (cell_of (HBX5.out.still hk7).at_).trans rfl
              have HT7 := hid (HT5.out.still hk7)
              clear hk7
              go_wp2_with fail
              refine (rdue HT7.out.rf id (by have := HLX.out; omega) (t.due : Int) true (.inl ⟨rfl, t, HTI.out.1, HTI.out.2, rfl, fun x hx e => HT7.out.wh.uniq hx HTI.out.1 (e.trans HTI.out.2.symm)⟩)).mono ?_
              rintro e w8 ⟨rfl, rfl⟩
              have r0 := HT7.out.rf.c0
              have r1 := HT7.out.rf.c1
              obtain ⟨va, vc, hv, _, _⟩ := HT7.out.rf.own.form
              rw [hv] at r1
              clear hv
              go_wp2
              go_quiet ((first
                | (go_at_call 17; exact quiet_var (fun W hk => wr_now (HT7.out.wh.still hk)))
                | (go_at_call 14; exact quiet_var (fun W hk => wr_len (HT7.out.wh.still hk)))))
              go_wp2_with fail
              go_roundw
              case rel => exact ⟨i + 1, now, (n + 1), L5, B4, v5, by omega, by omega, by omega, HLX.out, by go_num, HT7.out.still (Kept.drewN [] _ _)⟩
              case measure => simp [intOf]; omega
            · have HNX := hid (fun t ht e => hex ⟨t, ht, e⟩ : ∀ t ∈ L5, t.id ≠ id)
              clear hex
              go_wp2_with fail
              refine (wr_due_none HT5.out.wh id HID.out HNX.out).mono ?_
              rintro e w7 ⟨rfl, rfl⟩
              have HT7 := hid HT5.out
              go_wp2_with fail
              refine (rdue HT7.out.rf id (by have := HLX.out; omega) 0 false (.inr ⟨rfl, rfl, HNX.out⟩)).mono ?_
              rintro e w8 ⟨rfl, rfl⟩
              have r0 := HT7.out.rf.c0
              have r1 := HT7.out.rf.c1
              obtain ⟨va, vc, hv, _, _⟩ := HT7.out.rf.own.form
              rw [hv] at r1
              clear hv
              go_wp2
              go_quiet ((first
                | (go_at_call 17; exact quiet_var (fun W hk => wr_now (HT7.out.wh.still hk)))
                | (go_at_call 14; exact quiet_var (fun W hk => wr_len (HT7.out.wh.still hk)))))
              go_wp2_with fail
              go_roundw
              case rel => exact ⟨i + 1, now, (n + 1), L5, B4, v5, by omega, by omega, by omega, HLX.out, by go_num, HT7.out.still (Kept.drewN [] _ _)⟩
              case measure => simp [intOf]; omega
      · as_aux_lemma =>
          by_cases hbad2 : K < 1 ∨ 1152921504606846976 < now + K
          · have HB2 := hid hbad2
            clear hbad2
            go_wp2
            go_region_held3 (fun w' => w'.cell? ⟨wr.heap.size, 1, none⟩ = some (.int .i64 id) ∧ w'.cell? ⟨wr.heap.size, 2, none⟩ = some (.int .u64 (K : Int))) (first | exact ⟨f1, f2⟩) (first
              | (go_at_call 12; (with_reducible refine (wr_arm_bad (by exact HT.out.wh.still ⟨rfl, rfl, rfl, Nat.le_refl _, fun _ _ _ => rfl⟩) id (K : Int) (by omega) (by omega) (by have := HB2.out; omega)).mono ?_); rintro e w' ⟨rfl, rfl⟩)
              | (go_at_call 19; (with_reducible refine (rarm_bad (by exact HT.out.rf.still ⟨rfl, rfl, rfl, Nat.le_refl _, fun _ _ _ => rfl⟩) id (K : Int) HNOW.out (by omega) (by omega) (by have := HB2.out; omega)).mono ?_); rintro e w' ⟨rfl, rfl⟩))
            have HT4 := hid (HT.out.still (w1 := (wr.alloc (.cells #[.int .u8 kd, .int .i64 id, .int .u64 (K : Int)] 43)).drew) ⟨rfl, rfl, rfl, Nat.le_refl _, fun _ _ _ => rfl⟩)
            have HBX4 := hid (HBX.out.still (w1 := (wr.alloc (.cells #[.int .u8 kd, .int .i64 id, .int .u64 (K : Int)] 43)).drew) ⟨rfl, rfl, rfl, Nat.le_refl _, fun _ _ _ => rfl⟩)
            obtain ⟨W4, hW4⟩ : ∃ W4, W4 = (wr.alloc (.cells #[.int .u8 kd, .int .i64 id, .int .u64 (K : Int)] 43)).drew := ⟨_, rfl⟩
            rw [← hW4] at HT4 HBX4 ⊢
            clear hW4
            have q1 : (W4).cell? ⟨wr.heap.size, 1, none⟩ = some (.int .i64 id) := (cell_of HBX4.out.at_).trans rfl
            have HLX := hid (by omega : (L).length ≤ i + 1)
            by_cases hex : ∃ t ∈ L, t.id = id
            · obtain ⟨t, ht, hti⟩ := hex
              have HTI := hid (⟨ht, hti⟩ : t ∈ L ∧ t.id = id)
              clear ht hti
              go_wp2_with fail
              refine (wr_due HT4.out.wh HTI.out.1 id HTI.out.2).mono ?_
              rintro e w7 ⟨rfl, hk7⟩
              have q2 : w7.cell? ⟨wr.heap.size, 1, none⟩ = some (.int .i64 id) := (cell_of (HBX4.out.still hk7).at_).trans rfl
              have HT7 := hid (HT4.out.still hk7)
              clear hk7
              go_wp2_with fail
              refine (rdue HT7.out.rf id (by have := HLX.out; omega) (t.due : Int) true (.inl ⟨rfl, t, HTI.out.1, HTI.out.2, rfl, fun x hx e => HT7.out.wh.uniq hx HTI.out.1 (e.trans HTI.out.2.symm)⟩)).mono ?_
              rintro e w8 ⟨rfl, rfl⟩
              have r0 := HT7.out.rf.c0
              have r1 := HT7.out.rf.c1
              obtain ⟨va, vc, hv, _, _⟩ := HT7.out.rf.own.form
              rw [hv] at r1
              clear hv
              go_wp2
              go_quiet ((first
                | (go_at_call 17; exact quiet_var (fun W hk => wr_now (HT7.out.wh.still hk)))
                | (go_at_call 14; exact quiet_var (fun W hk => wr_len (HT7.out.wh.still hk)))))
              go_wp2_with fail
              go_roundw
              case rel => exact ⟨i + 1, now, n, L, B, v, by omega, by omega, by omega, HLX.out, by go_num, HT7.out.still (Kept.drewN [] _ _)⟩
              case measure => simp [intOf]; omega
            · have HNX := hid (fun t ht e => hex ⟨t, ht, e⟩ : ∀ t ∈ L, t.id ≠ id)
              clear hex
              go_wp2_with fail
              refine (wr_due_none HT4.out.wh id HID.out HNX.out).mono ?_
              rintro e w7 ⟨rfl, rfl⟩
              have HT7 := hid HT4.out
              go_wp2_with fail
              refine (rdue HT7.out.rf id (by have := HLX.out; omega) 0 false (.inr ⟨rfl, rfl, HNX.out⟩)).mono ?_
              rintro e w8 ⟨rfl, rfl⟩
              have r0 := HT7.out.rf.c0
              have r1 := HT7.out.rf.c1
              obtain ⟨va, vc, hv, _, _⟩ := HT7.out.rf.own.form
              rw [hv] at r1
              clear hv
              go_wp2
              go_quiet ((first
                | (go_at_call 17; exact quiet_var (fun W hk => wr_now (HT7.out.wh.still hk)))
                | (go_at_call 14; exact quiet_var (fun W hk => wr_len (HT7.out.wh.still hk)))))
              go_wp2_with fail
              go_roundw
              case rel => exact ⟨i + 1, now, n, L, B, v, by omega, by omega, by omega, HLX.out, by go_num, HT7.out.still (Kept.drewN [] _ _)⟩
              case measure => simp [intOf]; omega
          · have HK1 := hid (by omega : 1 ≤ K)
            have HK2 := hid (by omega : now + K ≤ 1152921504606846976)
            clear hbad2
            go_wp2
            go_region_held3 (fun w' => w'.cell? ⟨wr.heap.size, 1, none⟩ = some (.int .i64 id) ∧ w'.cell? ⟨wr.heap.size, 2, none⟩ = some (.int .u64 (K : Int))) (first | exact ⟨f1, f2⟩ | exact ⟨e4a, e4b⟩ | exact ⟨e5a, e5b⟩) (first
              | (go_at_call 12; (with_reducible refine (wr_arm (by exact HT.out.wh.still ⟨rfl, rfl, rfl, Nat.le_refl _, fun _ _ _ => rfl⟩) id HID.out K HK1.out HK2.out (by omega)).mono ?_); rintro e w4 ⟨rfl, B4, hR4, hS⟩; have HT4 := hid ((HT.out.still (w1 := (wr.alloc (.cells #[.int .u8 kd, .int .i64 id, .int .u64 (K : Int)] 43)).drew) ⟨rfl, rfl, rfl, Nat.le_refl _, fun _ _ _ => rfl⟩).left hS hR4); have HBX4 := hid ((HBX.out.still (w1 := (wr.alloc (.cells #[.int .u8 kd, .int .i64 id, .int .u64 (K : Int)] 43)).drew) ⟨rfl, rfl, rfl, Nat.le_refl _, fun _ _ _ => rfl⟩).left hS); have e4a : w4.cell? ⟨wr.heap.size, 1, none⟩ = some (.int .i64 id) := (cell_of HBX4.out.at_).trans rfl; have e4b : w4.cell? ⟨wr.heap.size, 2, none⟩ = some (.int .u64 (K : Int)) := (cell_of HBX4.out.at_).trans rfl; clear hR4 hS)
              | (go_at_call 19; (with_reducible refine (rarm (by exact HT4.out.rf.still ⟨rfl, rfl, rfl, Nat.le_refl _, fun _ _ _ => rfl⟩) id (by omega) K (n + 1) HK1.out HK2.out).mono ?_); rintro e w5 ⟨rfl, v5, hR5, hS⟩; have HT5 := hid (HT4.out.right hS hR5); have HBX5 := hid (HBX4.out.right hS); have e5a : w5.cell? ⟨wr.heap.size, 1, none⟩ = some (.int .i64 id) := (cell_of HBX5.out.at_).trans rfl; have e5b : w5.cell? ⟨wr.heap.size, 2, none⟩ = some (.int .u64 (K : Int)) := (cell_of HBX5.out.at_).trans rfl; clear hR5 hS))
            obtain ⟨L5, hL5⟩ : ∃ L5, L5 = less L id ++ [⟨now + K, id, n + 1⟩] := ⟨_, rfl⟩
            have hLL : L5.length ≤ i + 1 := by rw [hL5, List.length_append]; have := less_le L id; simp; omega
            rw [← hL5] at HT5
            clear hL5 HT4 HBX4 HT HBX e4a e4b e5a e5b
            have q1 : (w5).cell? ⟨wr.heap.size, 1, none⟩ = some (.int .i64 id) := (cell_of HBX5.out.at_).trans rfl
            have HLX := hid (hLL : (L5).length ≤ i + 1)
            by_cases hex : ∃ t ∈ L5, t.id = id
            · obtain ⟨t, ht, hti⟩ := hex
              have HTI := hid (⟨ht, hti⟩ : t ∈ L5 ∧ t.id = id)
              clear ht hti
              go_wp2_with fail
              refine (wr_due HT5.out.wh HTI.out.1 id HTI.out.2).mono ?_
              rintro e w7 ⟨rfl, hk7⟩
              have q2 : w7.cell? ⟨wr.heap.size, 1, none⟩ = some (.int .i64 id) := (cell_of (HBX5.out.still hk7).at_).trans rfl
              have HT7 := hid (HT5.out.still hk7)
              clear hk7
              go_wp2_with fail
              refine (rdue HT7.out.rf id (by have := HLX.out; omega) (t.due : Int) true (.inl ⟨rfl, t, HTI.out.1, HTI.out.2, rfl, fun x hx e => HT7.out.wh.uniq hx HTI.out.1 (e.trans HTI.out.2.symm)⟩)).mono ?_
              rintro e w8 ⟨rfl, rfl⟩
              have r0 := HT7.out.rf.c0
              have r1 := HT7.out.rf.c1
              obtain ⟨va, vc, hv, _, _⟩ := HT7.out.rf.own.form
              rw [hv] at r1
              clear hv
              go_wp2
              go_quiet ((first
                | (go_at_call 17; exact quiet_var (fun W hk => wr_now (HT7.out.wh.still hk)))
                | (go_at_call 14; exact quiet_var (fun W hk => wr_len (HT7.out.wh.still hk)))))
              go_wp2_with fail
              go_roundw
              case rel => exact ⟨i + 1, now, (n + 1), L5, B4, v5, by omega, by omega, by omega, HLX.out, by go_num, HT7.out.still (Kept.drewN [] _ _)⟩
              case measure => simp [intOf]; omega
            · have HNX := hid (fun t ht e => hex ⟨t, ht, e⟩ : ∀ t ∈ L5, t.id ≠ id)
              clear hex
              go_wp2_with fail
              refine (wr_due_none HT5.out.wh id HID.out HNX.out).mono ?_
              rintro e w7 ⟨rfl, rfl⟩
              have HT7 := hid HT5.out
              go_wp2_with fail
              refine (rdue HT7.out.rf id (by have := HLX.out; omega) 0 false (.inr ⟨rfl, rfl, HNX.out⟩)).mono ?_
              rintro e w8 ⟨rfl, rfl⟩
              have r0 := HT7.out.rf.c0
              have r1 := HT7.out.rf.c1
              obtain ⟨va, vc, hv, _, _⟩ := HT7.out.rf.own.form
              rw [hv] at r1
              clear hv
              go_wp2
              go_quiet ((first
                | (go_at_call 17; exact quiet_var (fun W hk => wr_now (HT7.out.wh.still hk)))
                | (go_at_call 14; exact quiet_var (fun W hk => wr_len (HT7.out.wh.still hk)))))
              go_wp2_with fail
              go_roundw
              case rel => exact ⟨i + 1, now, (n + 1), L5, B4, v5, by omega, by omega, by omega, HLX.out, by go_num, HT7.out.still (Kept.drewN [] _ _)⟩
              case measure => simp [intOf]; omega
      · as_aux_lemma =>
          by_cases hbad2 : K < 1 ∨ 1152921504606846976 < now + K
          · have HB2 := hid hbad2
            clear hbad2
            go_wp2
            go_region_held3 (fun w' => w'.cell? ⟨wr.heap.size, 1, none⟩ = some (.int .i64 id) ∧ w'.cell? ⟨wr.heap.size, 2, none⟩ = some (.int .u64 (K : Int))) (first | exact ⟨f1, f2⟩) (first
              | (go_at_call 12; (with_reducible refine (wr_arm_bad (by exact HT.out.wh.still ⟨rfl, rfl, rfl, Nat.le_refl _, fun _ _ _ => rfl⟩) id (K : Int) (by omega) (by omega) (by have := HB2.out; omega)).mono ?_); rintro e w' ⟨rfl, rfl⟩)
              | (go_at_call 19; (with_reducible refine (rarm_bad (by exact HT.out.rf.still ⟨rfl, rfl, rfl, Nat.le_refl _, fun _ _ _ => rfl⟩) id (K : Int) HNOW.out (by omega) (by omega) (by have := HB2.out; omega)).mono ?_); rintro e w' ⟨rfl, rfl⟩))
            have HT4 := hid (HT.out.still (w1 := (wr.alloc (.cells #[.int .u8 kd, .int .i64 id, .int .u64 (K : Int)] 43)).drew) ⟨rfl, rfl, rfl, Nat.le_refl _, fun _ _ _ => rfl⟩)
            have HBX4 := hid (HBX.out.still (w1 := (wr.alloc (.cells #[.int .u8 kd, .int .i64 id, .int .u64 (K : Int)] 43)).drew) ⟨rfl, rfl, rfl, Nat.le_refl _, fun _ _ _ => rfl⟩)
            obtain ⟨W4, hW4⟩ : ∃ W4, W4 = (wr.alloc (.cells #[.int .u8 kd, .int .i64 id, .int .u64 (K : Int)] 43)).drew := ⟨_, rfl⟩
            rw [← hW4] at HT4 HBX4 ⊢
            clear hW4
            have q1 : (W4).cell? ⟨wr.heap.size, 1, none⟩ = some (.int .i64 id) := (cell_of HBX4.out.at_).trans rfl
            have HLX := hid (by omega : (L).length ≤ i + 1)
            by_cases hex : ∃ t ∈ L, t.id = id
            · obtain ⟨t, ht, hti⟩ := hex
              have HTI := hid (⟨ht, hti⟩ : t ∈ L ∧ t.id = id)
              clear ht hti
              go_wp2_with fail
              refine (wr_due HT4.out.wh HTI.out.1 id HTI.out.2).mono ?_
              rintro e w7 ⟨rfl, hk7⟩
              have q2 : w7.cell? ⟨wr.heap.size, 1, none⟩ = some (.int .i64 id) := (cell_of (HBX4.out.still hk7).at_).trans rfl
              have HT7 := hid (HT4.out.still hk7)
              clear hk7
              go_wp2_with fail
              refine (rdue HT7.out.rf id (by have := HLX.out; omega) (t.due : Int) true (.inl ⟨rfl, t, HTI.out.1, HTI.out.2, rfl, fun x hx e => HT7.out.wh.uniq hx HTI.out.1 (e.trans HTI.out.2.symm)⟩)).mono ?_
              rintro e w8 ⟨rfl, rfl⟩
              have r0 := HT7.out.rf.c0
              have r1 := HT7.out.rf.c1
              obtain ⟨va, vc, hv, _, _⟩ := HT7.out.rf.own.form
              rw [hv] at r1
              clear hv
              go_wp2
              go_quiet ((first
                | (go_at_call 17; exact quiet_var (fun W hk => wr_now (HT7.out.wh.still hk)))
                | (go_at_call 14; exact quiet_var (fun W hk => wr_len (HT7.out.wh.still hk)))))
              go_wp2_with fail
              go_roundw
              case rel => exact ⟨i + 1, now, n, L, B, v, by omega, by omega, by omega, HLX.out, by go_num, HT7.out.still (Kept.drewN [] _ _)⟩
              case measure => simp [intOf]; omega
            · have HNX := hid (fun t ht e => hex ⟨t, ht, e⟩ : ∀ t ∈ L, t.id ≠ id)
              clear hex
              go_wp2_with fail
              refine (wr_due_none HT4.out.wh id HID.out HNX.out).mono ?_
              rintro e w7 ⟨rfl, rfl⟩
              have HT7 := hid HT4.out
              go_wp2_with fail
              refine (rdue HT7.out.rf id (by have := HLX.out; omega) 0 false (.inr ⟨rfl, rfl, HNX.out⟩)).mono ?_
              rintro e w8 ⟨rfl, rfl⟩
              have r0 := HT7.out.rf.c0
              have r1 := HT7.out.rf.c1
              obtain ⟨va, vc, hv, _, _⟩ := HT7.out.rf.own.form
              rw [hv] at r1
              clear hv
              go_wp2
              go_quiet ((first
                | (go_at_call 17; exact quiet_var (fun W hk => wr_now (HT7.out.wh.still hk)))
                | (go_at_call 14; exact quiet_var (fun W hk => wr_len (HT7.out.wh.still hk)))))
              go_wp2_with fail
              go_roundw
              case rel => exact ⟨i + 1, now, n, L, B, v, by omega, by omega, by omega, HLX.out, by go_num, HT7.out.still (Kept.drewN [] _ _)⟩
              case measure => simp [intOf]; omega
          · have HK1 := hid (by omega : 1 ≤ K)
            have HK2 := hid (by omega : now + K ≤ 1152921504606846976)
            clear hbad2
            go_wp2
            go_region_held3 (fun w' => w'.cell? ⟨wr.heap.size, 1, none⟩ = some (.int .i64 id) ∧ w'.cell? ⟨wr.heap.size, 2, none⟩ = some (.int .u64 (K : Int))) (first | exact ⟨f1, f2⟩ | exact ⟨e4a, e4b⟩ | exact ⟨e5a, e5b⟩) (first
              | (go_at_call 12; (with_reducible refine (wr_arm (by exact HT.out.wh.still ⟨rfl, rfl, rfl, Nat.le_refl _, fun _ _ _ => rfl⟩) id HID.out K HK1.out HK2.out (by omega)).mono ?_); rintro e w4 ⟨rfl, B4, hR4, hS⟩; have HT4 := hid ((HT.out.still (w1 := (wr.alloc (.cells #[.int .u8 kd, .int .i64 id, .int .u64 (K : Int)] 43)).drew) ⟨rfl, rfl, rfl, Nat.le_refl _, fun _ _ _ => rfl⟩).left hS hR4); have HBX4 := hid ((HBX.out.still (w1 := (wr.alloc (.cells #[.int .u8 kd, .int .i64 id, .int .u64 (K : Int)] 43)).drew) ⟨rfl, rfl, rfl, Nat.le_refl _, fun _ _ _ => rfl⟩).left hS); have e4a : w4.cell? ⟨wr.heap.size, 1, none⟩ = some (.int .i64 id) := (cell_of HBX4.out.at_).trans rfl; have e4b : w4.cell? ⟨wr.heap.size, 2, none⟩ = some (.int .u64 (K : Int)) := (cell_of HBX4.out.at_).trans rfl; clear hR4 hS)
              | (go_at_call 19; (with_reducible refine (rarm (by exact HT4.out.rf.still ⟨rfl, rfl, rfl, Nat.le_refl _, fun _ _ _ => rfl⟩) id (by omega) K (n + 1) HK1.out HK2.out).mono ?_); rintro e w5 ⟨rfl, v5, hR5, hS⟩; have HT5 := hid (HT4.out.right hS hR5); have HBX5 := hid (HBX4.out.right hS); have e5a : w5.cell? ⟨wr.heap.size, 1, none⟩ = some (.int .i64 id) := (cell_of HBX5.out.at_).trans rfl; have e5b : w5.cell? ⟨wr.heap.size, 2, none⟩ = some (.int .u64 (K : Int)) := (cell_of HBX5.out.at_).trans rfl; clear hR5 hS))
            obtain ⟨L5, hL5⟩ : ∃ L5, L5 = less L id ++ [⟨now + K, id, n + 1⟩] := ⟨_, rfl⟩
            have hLL : L5.length ≤ i + 1 := by rw [hL5, List.length_append]; have := less_le L id; simp; omega
            rw [← hL5] at HT5
            clear hL5 HT4 HBX4 HT HBX e4a e4b e5a e5b
            have q1 : (w5).cell? ⟨wr.heap.size, 1, none⟩ = some (.int .i64 id) := (cell_of HBX5.out.at_).trans rfl
            have HLX := hid (hLL : (L5).length ≤ i + 1)
            by_cases hex : ∃ t ∈ L5, t.id = id
            · obtain ⟨t, ht, hti⟩ := hex
              have HTI := hid (⟨ht, hti⟩ : t ∈ L5 ∧ t.id = id)
              clear ht hti
              go_wp2_with fail
              refine (wr_due HT5.out.wh HTI.out.1 id HTI.out.2).mono ?_
              rintro e w7 ⟨rfl, hk7⟩
              have q2 : w7.cell? ⟨wr.heap.size, 1, none⟩ = some (.int .i64 id) := (cell_of (HBX5.out.still hk7).at_).trans rfl
              have HT7 := hid (HT5.out.still hk7)
              clear hk7
              go_wp2_with fail
              refine (rdue HT7.out.rf id (by have := HLX.out; omega) (t.due : Int) true (.inl ⟨rfl, t, HTI.out.1, HTI.out.2, rfl, fun x hx e => HT7.out.wh.uniq hx HTI.out.1 (e.trans HTI.out.2.symm)⟩)).mono ?_
              rintro e w8 ⟨rfl, rfl⟩
              have r0 := HT7.out.rf.c0
              have r1 := HT7.out.rf.c1
              obtain ⟨va, vc, hv, _, _⟩ := HT7.out.rf.own.form
              rw [hv] at r1
              clear hv
              go_wp2
              go_quiet ((first
                | (go_at_call 17; exact quiet_var (fun W hk => wr_now (HT7.out.wh.still hk)))
                | (go_at_call 14; exact quiet_var (fun W hk => wr_len (HT7.out.wh.still hk)))))
              go_wp2_with fail
              go_roundw
              case rel => exact ⟨i + 1, now, (n + 1), L5, B4, v5, by omega, by omega, by omega, HLX.out, by go_num, HT7.out.still (Kept.drewN [] _ _)⟩
              case measure => simp [intOf]; omega
            · have HNX := hid (fun t ht e => hex ⟨t, ht, e⟩ : ∀ t ∈ L5, t.id ≠ id)
              clear hex
              go_wp2_with fail
              refine (wr_due_none HT5.out.wh id HID.out HNX.out).mono ?_
              rintro e w7 ⟨rfl, rfl⟩
              have HT7 := hid HT5.out
              go_wp2_with fail
              refine (rdue HT7.out.rf id (by have := HLX.out; omega) 0 false (.inr ⟨rfl, rfl, HNX.out⟩)).mono ?_
              rintro e w8 ⟨rfl, rfl⟩
              have r0 := HT7.out.rf.c0
              have r1 := HT7.out.rf.c1
              obtain ⟨va, vc, hv, _, _⟩ := HT7.out.rf.own.form
              rw [hv] at r1
              clear hv
              go_wp2
              go_quiet ((first
                | (go_at_call 17; exact quiet_var (fun W hk => wr_now (HT7.out.wh.still hk)))
                | (go_at_call 14; exact quiet_var (fun W hk => wr_len (HT7.out.wh.still hk)))))
              go_wp2_with fail
              go_roundw
              case rel => exact ⟨i + 1, now, (n + 1), L5, B4, v5, by omega, by omega, by omega, HLX.out, by go_num, HT7.out.still (Kept.drewN [] _ _)⟩
              case measure => simp [intOf]; omega
      · as_aux_lemma =>
          by_cases hR0 : ∃ t ∈ L, t.id = id
          · have HR0 := hid hR0
            have HBB := hid (by have := less_one HT.out.wh.ids hR0; simp; omega : true = decide ((less L id).length < L.length))
            clear hR0
            go_wp2
            go_region_held3 (fun w' => w'.cell? ⟨wr.heap.size, 1, none⟩ = some (.int .i64 id)) (first | exact f1 | exact e4a | exact e5a) (first
              | (go_at_call 15; (with_reducible refine (wr_cancel (by exact HT.out.wh.still ⟨rfl, rfl, rfl, Nat.le_refl _, fun _ _ _ => rfl⟩) id HID.out HR0.out).mono ?_); rintro e w4 ⟨rfl, hR4, hS⟩; have HT4 := hid ((HT.out.still (w1 := (wr.alloc (.cells #[.int .u8 kd, .int .i64 id, .int .u64 (K : Int)] 43)).drew) ⟨rfl, rfl, rfl, Nat.le_refl _, fun _ _ _ => rfl⟩).left hS hR4); have HBX4 := hid ((HBX.out.still (w1 := (wr.alloc (.cells #[.int .u8 kd, .int .i64 id, .int .u64 (K : Int)] 43)).drew) ⟨rfl, rfl, rfl, Nat.le_refl _, fun _ _ _ => rfl⟩).left hS); have e4a : w4.cell? ⟨wr.heap.size, 1, none⟩ = some (.int .i64 id) := (cell_of HBX4.out.at_).trans rfl; clear hR4 hS)
              | (go_at_call 20; (with_reducible refine (rcancel (by exact HT4.out.rf.still ⟨rfl, rfl, rfl, Nat.le_refl _, fun _ _ _ => rfl⟩) id (by omega) true HBB.out).mono ?_); rintro e w5 ⟨rfl, v5, hR5, hS, _⟩; have HT5 := hid (HT4.out.right hS hR5); have HBX5 := hid (HBX4.out.right hS); have e5a : w5.cell? ⟨wr.heap.size, 1, none⟩ = some (.int .i64 id) := (cell_of HBX5.out.at_).trans rfl; clear hR5 hS))
            obtain ⟨L5, hL5⟩ : ∃ L5, L5 = less L id := ⟨_, rfl⟩
            have hLL : L5.length ≤ i + 1 := by rw [hL5]; have := less_le L id; omega
            rw [← hL5] at HT5
            clear hL5 HT4 HBX4 HT HBX e4a e5a
            have q1 : (w5).cell? ⟨wr.heap.size, 1, none⟩ = some (.int .i64 id) := (cell_of HBX5.out.at_).trans rfl
            have HLX := hid (hLL : (L5).length ≤ i + 1)
            by_cases hex : ∃ t ∈ L5, t.id = id
            · obtain ⟨t, ht, hti⟩ := hex
              have HTI := hid (⟨ht, hti⟩ : t ∈ L5 ∧ t.id = id)
              clear ht hti
              go_wp2_with fail
              refine (wr_due HT5.out.wh HTI.out.1 id HTI.out.2).mono ?_
              rintro e w7 ⟨rfl, hk7⟩
              have q2 : w7.cell? ⟨wr.heap.size, 1, none⟩ = some (.int .i64 id) := (cell_of (HBX5.out.still hk7).at_).trans rfl
              have HT7 := hid (HT5.out.still hk7)
              clear hk7
              go_wp2_with fail
              refine (rdue HT7.out.rf id (by have := HLX.out; omega) (t.due : Int) true (.inl ⟨rfl, t, HTI.out.1, HTI.out.2, rfl, fun x hx e => HT7.out.wh.uniq hx HTI.out.1 (e.trans HTI.out.2.symm)⟩)).mono ?_
              rintro e w8 ⟨rfl, rfl⟩
              have r0 := HT7.out.rf.c0
              have r1 := HT7.out.rf.c1
              obtain ⟨va, vc, hv, _, _⟩ := HT7.out.rf.own.form
              rw [hv] at r1
              clear hv
              go_wp2
              go_quiet ((first
                | (go_at_call 17; exact quiet_var (fun W hk => wr_now (HT7.out.wh.still hk)))
                | (go_at_call 14; exact quiet_var (fun W hk => wr_len (HT7.out.wh.still hk)))))
              go_wp2_with fail
              go_roundw
              case rel => exact ⟨i + 1, now, n, L5, B, v5, by omega, by omega, by omega, HLX.out, by go_num, HT7.out.still (Kept.drewN [] _ _)⟩
              case measure => simp [intOf]; omega
            · have HNX := hid (fun t ht e => hex ⟨t, ht, e⟩ : ∀ t ∈ L5, t.id ≠ id)
              clear hex
              go_wp2_with fail
              refine (wr_due_none HT5.out.wh id HID.out HNX.out).mono ?_
              rintro e w7 ⟨rfl, rfl⟩
              have HT7 := hid HT5.out
              go_wp2_with fail
              refine (rdue HT7.out.rf id (by have := HLX.out; omega) 0 false (.inr ⟨rfl, rfl, HNX.out⟩)).mono ?_
              rintro e w8 ⟨rfl, rfl⟩
              have r0 := HT7.out.rf.c0
              have r1 := HT7.out.rf.c1
              obtain ⟨va, vc, hv, _, _⟩ := HT7.out.rf.own.form
              rw [hv] at r1
              clear hv
              go_wp2
              go_quiet ((first
                | (go_at_call 17; exact quiet_var (fun W hk => wr_now (HT7.out.wh.still hk)))
                | (go_at_call 14; exact quiet_var (fun W hk => wr_len (HT7.out.wh.still hk)))))
              go_wp2_with fail
              go_roundw
              case rel => exact ⟨i + 1, now, n, L5, B, v5, by omega, by omega, by omega, HLX.out, by go_num, HT7.out.still (Kept.drewN [] _ _)⟩
              case measure => simp [intOf]; omega
          · have hno : ∀ t ∈ L, t.id ≠ id := fun t ht e => hR0 ⟨t, ht, e⟩
            have HNO := hid hno
            have HBB := hid (by rw [less_none hno]; simp : false = decide ((less L id).length < L.length))
            clear hR0 hno
            go_wp2
            go_region_held3 (fun w' => w'.cell? ⟨wr.heap.size, 1, none⟩ = some (.int .i64 id)) (first | exact f1 | exact e5a) (first
              | (go_at_call 15; (with_reducible refine (wr_cancel_none (by exact HT.out.wh.still ⟨rfl, rfl, rfl, Nat.le_refl _, fun _ _ _ => rfl⟩) id HID.out HNO.out).mono ?_); rintro e w4 ⟨rfl, rfl⟩)
              | (go_at_call 20; (with_reducible refine (rcancel (by exact HT.out.rf.still ⟨rfl, rfl, rfl, Nat.le_refl _, fun _ _ _ => rfl⟩) id (by omega) false HBB.out).mono ?_); rintro e w5 ⟨rfl, v5, hR5, hS, _⟩; have HT5 := hid ((HT.out.still (w1 := (wr.alloc (.cells #[.int .u8 kd, .int .i64 id, .int .u64 (K : Int)] 43)).drew) ⟨rfl, rfl, rfl, Nat.le_refl _, fun _ _ _ => rfl⟩).right hS (by rw [less_none HNO.out] at hR5; exact hR5)); have HBX5 := hid ((HBX.out.still (w1 := (wr.alloc (.cells #[.int .u8 kd, .int .i64 id, .int .u64 (K : Int)] 43)).drew) ⟨rfl, rfl, rfl, Nat.le_refl _, fun _ _ _ => rfl⟩).right hS); have e5a : w5.cell? ⟨wr.heap.size, 1, none⟩ = some (.int .i64 id) := (cell_of HBX5.out.at_).trans rfl; clear hR5 hS))
            have hLL : L.length ≤ i + 1 := by omega
            clear HT HBX e5a
            have q1 : (w5).cell? ⟨wr.heap.size, 1, none⟩ = some (.int .i64 id) := (cell_of HBX5.out.at_).trans rfl
            have HLX := hid (hLL : (L).length ≤ i + 1)
            by_cases hex : ∃ t ∈ L, t.id = id
            · obtain ⟨t, ht, hti⟩ := hex
              have HTI := hid (⟨ht, hti⟩ : t ∈ L ∧ t.id = id)
              clear ht hti
              go_wp2_with fail
              refine (wr_due HT5.out.wh HTI.out.1 id HTI.out.2).mono ?_
              rintro e w7 ⟨rfl, hk7⟩
              have q2 : w7.cell? ⟨wr.heap.size, 1, none⟩ = some (.int .i64 id) := (cell_of (HBX5.out.still hk7).at_).trans rfl
              have HT7 := hid (HT5.out.still hk7)
              clear hk7
              go_wp2_with fail
              refine (rdue HT7.out.rf id (by have := HLX.out; omega) (t.due : Int) true (.inl ⟨rfl, t, HTI.out.1, HTI.out.2, rfl, fun x hx e => HT7.out.wh.uniq hx HTI.out.1 (e.trans HTI.out.2.symm)⟩)).mono ?_
              rintro e w8 ⟨rfl, rfl⟩
              have r0 := HT7.out.rf.c0
              have r1 := HT7.out.rf.c1
              obtain ⟨va, vc, hv, _, _⟩ := HT7.out.rf.own.form
              rw [hv] at r1
              clear hv
              go_wp2
              go_quiet ((first
                | (go_at_call 17; exact quiet_var (fun W hk => wr_now (HT7.out.wh.still hk)))
                | (go_at_call 14; exact quiet_var (fun W hk => wr_len (HT7.out.wh.still hk)))))
              go_wp2_with fail
              go_roundw
              case rel => exact ⟨i + 1, now, n, L, B, v5, by omega, by omega, by omega, HLX.out, by go_num, HT7.out.still (Kept.drewN [] _ _)⟩
              case measure => simp [intOf]; omega
            · have HNX := hid (fun t ht e => hex ⟨t, ht, e⟩ : ∀ t ∈ L, t.id ≠ id)
              clear hex
              go_wp2_with fail
              refine (wr_due_none HT5.out.wh id HID.out HNX.out).mono ?_
              rintro e w7 ⟨rfl, rfl⟩
              have HT7 := hid HT5.out
              go_wp2_with fail
              refine (rdue HT7.out.rf id (by have := HLX.out; omega) 0 false (.inr ⟨rfl, rfl, HNX.out⟩)).mono ?_
              rintro e w8 ⟨rfl, rfl⟩
              have r0 := HT7.out.rf.c0
              have r1 := HT7.out.rf.c1
              obtain ⟨va, vc, hv, _, _⟩ := HT7.out.rf.own.form
              rw [hv] at r1
              clear hv
              go_wp2
              go_quiet ((first
                | (go_at_call 17; exact quiet_var (fun W hk => wr_now (HT7.out.wh.still hk)))
                | (go_at_call 14; exact quiet_var (fun W hk => wr_len (HT7.out.wh.still hk)))))
              go_wp2_with fail
              go_roundw
              case rel => exact ⟨i + 1, now, n, L, B, v5, by omega, by omega, by omega, HLX.out, by go_num, HT7.out.still (Kept.drewN [] _ _)⟩
              case measure => simp [intOf]; omega
      · as_aux_lemma =>
          obtain ⟨N, hN⟩ : ∃ N : Nat, (K : Int) % 300 = (N : Int) := ⟨K % 300, by omega⟩
          have hN300 : N ≤ 299 := by omega
          have hN300i : (N : Int) ≤ 299 := by omega
          go_wp2
          obtain ⟨W4, hW4⟩ : ∃ W4, W4 = (wr.alloc (.cells #[.int .u8 kd, .int .i64 id, .int .u64 (K : Int)] 43)) := ⟨_, rfl⟩
          rw [← hW4] at HT HBX ⊢
          clear hW4 f0 f1 f2
          rw [hN, hm6]
          obtain ⟨wo, rfl⟩ : ∃ wo : World, wo = wr := ⟨_, rfl⟩
          go_loopw [11, 12, 13, 14, 15] (fun kv u1 u2 u3 u4 wr => ∃ (k m : Nat) (L : List Tm) (B : Nat → Prop) (v : Value), k ≤ N ∧ L.length ≤ i ∧ kv = .int .i64 (k : Int) ∧ TP w wr b B m m n L L rb v ∧ Bx wr B rb v wo.heap.size (.cells #[.int .u8 kd, .int .i64 id, .int .u64 (K : Int)] 43 (0, 0))) (fun kv _ _ _ _ _ => N - (intOf kv).toNat)
          case atStart => exact ⟨0, now, L, B, v, by omega, hL, rfl, HT.out, HBX.out⟩
          case round =>
            clear HT HBX hL HNOW
            obtain ⟨k, m, L, B, v, hk, hL, rfl, hT, hB⟩ := hrel
            have HT := hid hT
            have HBX := hid hB
            clear hT hB
            by_cases hltk : k < N
            · have hltki : (k : Int) < (N : Int) := by omega
              by_cases hlast : m < 1152921504606846976
              · have HLA := hid hlast
                clear hlast
                go_wp2_with fail
                refine (wr_tick HT.out.wh HLA.out).mono ?_
                rintro e w4 ⟨v4, B4, rfl, hO4, hA4, hR4, hS4⟩
                have hT4 := HT.out.left hS4 hR4
                have hB4 := HBX.out.left hS4
                obtain ⟨a4, n4, c4, hv4⟩ := hO4.form'
                subst hv4
                have HO4 := hid hO4
                have HA4 := hid hA4
                have HT4 := hid hT4
                have HB4 := hid hB4
                clear hA4 hR4 hS4 hO4 hT4 hB4
                go_wp2_with fail
                refine (rtick HT4.out.rf (by omega) HLA.out).mono ?_
                rintro e w5 ⟨v5, v6, rfl, hO5, hA5, hR5, hS5⟩
                have HT5 := hid (HT4.out.right hS5 hR5)
                have HB5 := hid (HB4.out.right hS5)
                have HS4 := hid (Sl.step HO4.out hS5 (fun k hk => HT4.out.rf.lt hk) (fun k hk hr => by have h1 := (HO4.out.lt k hk).1; have h2 := HT.out.rf.lt hr; omega))
                obtain ⟨a5, n5, c5, hv5⟩ := hO5.form'
                subst hv5
                have HS5 := hid hO5.sl
                clear hA5 hR5 hS5 hO5 HT4 HO4 HB4
                go_wp2_with fail
                refine (same_true _ _ _ _ _ _ _ _ HS4.out HS5.out ids_int).mono ?_
                rintro e w6 ⟨rfl, kd6, rfl⟩
                go_wp2_with fail
                go_roundw
                case rel => exact ⟨k + 1, m + 1, late L (m + 1), B4, v6, by omega, by have := late_le L (m + 1); omega, by go_num, HT5.out.still (Kept.drewN [] _ kd6), HB5.out.still (Kept.drewN [] _ kd6)⟩
                case measure => simp [intOf]; omega
              · have HLA := hid (by omega : 1152921504606846976 ≤ m)
                clear hlast
                go_wp2_with fail
                refine (wr_tick_last HT.out.wh HLA.out).mono ?_
                rintro e w4 ⟨rfl, rfl⟩
                go_wp2_with fail
                refine (rtick_last HT.out.rf HLA.out).mono ?_
                rintro e w5 ⟨rfl, rfl⟩
                go_wp2_with fail
                refine (same_true _ _ _ _ _ _ _ _ (Sl.nil _) (Sl.nil _) (by simp)).mono ?_
                rintro e w6 ⟨rfl, kd6, rfl⟩
                go_wp2_with fail
                go_roundw
                case rel => exact ⟨k + 1, m, L, B, v, by omega, hL, by go_num, HT.out.still (Kept.drewN [] _ kd6), HBX.out.still (Kept.drewN [] _ kd6)⟩
                case measure => simp [intOf]; omega
            · obtain rfl : k = N := by omega
              have HNOW := hid HT.out.wh.now_le
              have hLL : L.length ≤ i + 1 := by omega
              have q1 : (wr).cell? ⟨wo.heap.size, 1, none⟩ = some (.int .i64 id) := (cell_of HBX.out.at_).trans rfl
              have HLX := hid (hLL : (L).length ≤ i + 1)
              by_cases hex : ∃ t ∈ L, t.id = id
              · obtain ⟨t, ht, hti⟩ := hex
                have HTI := hid (⟨ht, hti⟩ : t ∈ L ∧ t.id = id)
                clear ht hti
                go_wp2_with fail
                refine (wr_due HT.out.wh HTI.out.1 id HTI.out.2).mono ?_
                rintro e w7 ⟨rfl, hk7⟩
                have q2 : w7.cell? ⟨wo.heap.size, 1, none⟩ = some (.int .i64 id) := (cell_of (HBX.out.still hk7).at_).trans rfl
                have HT7 := hid (HT.out.still hk7)
                clear hk7
                go_wp2_with fail
                refine (rdue HT7.out.rf id (by have := HLX.out; omega) (t.due : Int) true (.inl ⟨rfl, t, HTI.out.1, HTI.out.2, rfl, fun x hx e => HT7.out.wh.uniq hx HTI.out.1 (e.trans HTI.out.2.symm)⟩)).mono ?_
                rintro e w8 ⟨rfl, rfl⟩
                have r0 := HT7.out.rf.c0
                have r1 := HT7.out.rf.c1
                obtain ⟨va, vc, hv, _, _⟩ := HT7.out.rf.own.form
                rw [hv] at r1
                clear hv
                go_wp2
                go_quiet ((first
                  | (go_at_call 17; exact quiet_var (fun W hk => wr_now (HT7.out.wh.still hk)))
                  | (go_at_call 14; exact quiet_var (fun W hk => wr_len (HT7.out.wh.still hk)))))
                go_wp2_with fail
                go_roundw
                case rel => exact ⟨i + 1, m, n, L, B, v, by omega, by omega, by omega, HLX.out, by go_num, HT7.out.still (Kept.drewN [] _ _)⟩
                case measure => simp [intOf]; omega
              · have HNX := hid (fun t ht e => hex ⟨t, ht, e⟩ : ∀ t ∈ L, t.id ≠ id)
                clear hex
                go_wp2_with fail
                refine (wr_due_none HT.out.wh id HID.out HNX.out).mono ?_
                rintro e w7 ⟨rfl, rfl⟩
                have HT7 := hid HT.out
                go_wp2_with fail
                refine (rdue HT7.out.rf id (by have := HLX.out; omega) 0 false (.inr ⟨rfl, rfl, HNX.out⟩)).mono ?_
                rintro e w8 ⟨rfl, rfl⟩
                have r0 := HT7.out.rf.c0
                have r1 := HT7.out.rf.c1
                obtain ⟨va, vc, hv, _, _⟩ := HT7.out.rf.own.form
                rw [hv] at r1
                clear hv
                go_wp2
                go_quiet ((first
                  | (go_at_call 17; exact quiet_var (fun W hk => wr_now (HT7.out.wh.still hk)))
                  | (go_at_call 14; exact quiet_var (fun W hk => wr_len (HT7.out.wh.still hk)))))
                go_wp2_with fail
                go_roundw
                case rel => exact ⟨i + 1, m, n, L, B, v, by omega, by omega, by omega, HLX.out, by go_num, HT7.out.still (Kept.drewN [] _ _)⟩
                case measure => simp [intOf]; omega
      · as_aux_lemma =>
          have hN300 : 1 ≤ 299 := by omega
          go_wp2
          obtain ⟨W4, hW4⟩ : ∃ W4, W4 = (wr.alloc (.cells #[.int .u8 kd, .int .i64 id, .int .u64 (K : Int)] 43)) := ⟨_, rfl⟩
          rw [← hW4] at HT HBX ⊢
          clear hW4 f0 f1 f2
          rw [hm6]
          obtain ⟨wo, rfl⟩ : ∃ wo : World, wo = wr := ⟨_, rfl⟩
          go_loopw [11, 12, 13, 14, 15] (fun kv u1 u2 u3 u4 wr => ∃ (k m : Nat) (L : List Tm) (B : Nat → Prop) (v : Value), k ≤ 1 ∧ L.length ≤ i ∧ kv = .int .i64 (k : Int) ∧ TP w wr b B m m n L L rb v ∧ Bx wr B rb v wo.heap.size (.cells #[.int .u8 kd, .int .i64 id, .int .u64 (K : Int)] 43 (0, 0))) (fun kv _ _ _ _ _ => 1 - (intOf kv).toNat)
          case atStart => exact ⟨0, now, L, B, v, by omega, hL, rfl, HT.out, HBX.out⟩
          case round =>
            clear HT HBX hL HNOW
            obtain ⟨k, m, L, B, v, hk, hL, rfl, hT, hB⟩ := hrel
            have HT := hid hT
            have HBX := hid hB
            clear hT hB
            by_cases hltk : k < 1
            · have hltki : (k : Int) < 1 := by omega
              by_cases hlast : m < 1152921504606846976
              · have HLA := hid hlast
                clear hlast
                go_wp2_with fail
                refine (wr_tick HT.out.wh HLA.out).mono ?_
                rintro e w4 ⟨v4, B4, rfl, hO4, hA4, hR4, hS4⟩
                have hT4 := HT.out.left hS4 hR4
                have hB4 := HBX.out.left hS4
                obtain ⟨a4, n4, c4, hv4⟩ := hO4.form'
                subst hv4
                have HO4 := hid hO4
                have HA4 := hid hA4
                have HT4 := hid hT4
                have HB4 := hid hB4
                clear hA4 hR4 hS4 hO4 hT4 hB4
                go_wp2_with fail
                refine (rtick HT4.out.rf (by omega) HLA.out).mono ?_
                rintro e w5 ⟨v5, v6, rfl, hO5, hA5, hR5, hS5⟩
                have HT5 := hid (HT4.out.right hS5 hR5)
                have HB5 := hid (HB4.out.right hS5)
                have HS4 := hid (Sl.step HO4.out hS5 (fun k hk => HT4.out.rf.lt hk) (fun k hk hr => by have h1 := (HO4.out.lt k hk).1; have h2 := HT.out.rf.lt hr; omega))
                obtain ⟨a5, n5, c5, hv5⟩ := hO5.form'
                subst hv5
                have HS5 := hid hO5.sl
                clear hA5 hR5 hS5 hO5 HT4 HO4 HB4
                go_wp2_with fail
                refine (same_true _ _ _ _ _ _ _ _ HS4.out HS5.out ids_int).mono ?_
                rintro e w6 ⟨rfl, kd6, rfl⟩
                go_wp2_with fail
                go_roundw
                case rel => exact ⟨k + 1, m + 1, late L (m + 1), B4, v6, by omega, by have := late_le L (m + 1); omega, by go_num, HT5.out.still (Kept.drewN [] _ kd6), HB5.out.still (Kept.drewN [] _ kd6)⟩
                case measure => simp [intOf]; omega
              · have HLA := hid (by omega : 1152921504606846976 ≤ m)
                clear hlast
                go_wp2_with fail
                refine (wr_tick_last HT.out.wh HLA.out).mono ?_
                rintro e w4 ⟨rfl, rfl⟩
                go_wp2_with fail
                refine (rtick_last HT.out.rf HLA.out).mono ?_
                rintro e w5 ⟨rfl, rfl⟩
                go_wp2_with fail
                refine (same_true _ _ _ _ _ _ _ _ (Sl.nil _) (Sl.nil _) (by simp)).mono ?_
                rintro e w6 ⟨rfl, kd6, rfl⟩
                go_wp2_with fail
                go_roundw
                case rel => exact ⟨k + 1, m, L, B, v, by omega, hL, by go_num, HT.out.still (Kept.drewN [] _ kd6), HBX.out.still (Kept.drewN [] _ kd6)⟩
                case measure => simp [intOf]; omega
            · obtain rfl : k = 1 := by omega
              have HNOW := hid HT.out.wh.now_le
              have hLL : L.length ≤ i + 1 := by omega
              have q1 : (wr).cell? ⟨wo.heap.size, 1, none⟩ = some (.int .i64 id) := (cell_of HBX.out.at_).trans rfl
              have HLX := hid (hLL : (L).length ≤ i + 1)
              by_cases hex : ∃ t ∈ L, t.id = id
              · obtain ⟨t, ht, hti⟩ := hex
                have HTI := hid (⟨ht, hti⟩ : t ∈ L ∧ t.id = id)
                clear ht hti
                go_wp2_with fail
                refine (wr_due HT.out.wh HTI.out.1 id HTI.out.2).mono ?_
                rintro e w7 ⟨rfl, hk7⟩
                have q2 : w7.cell? ⟨wo.heap.size, 1, none⟩ = some (.int .i64 id) := (cell_of (HBX.out.still hk7).at_).trans rfl
                have HT7 := hid (HT.out.still hk7)
                clear hk7
                go_wp2_with fail
                refine (rdue HT7.out.rf id (by have := HLX.out; omega) (t.due : Int) true (.inl ⟨rfl, t, HTI.out.1, HTI.out.2, rfl, fun x hx e => HT7.out.wh.uniq hx HTI.out.1 (e.trans HTI.out.2.symm)⟩)).mono ?_
                rintro e w8 ⟨rfl, rfl⟩
                have r0 := HT7.out.rf.c0
                have r1 := HT7.out.rf.c1
                obtain ⟨va, vc, hv, _, _⟩ := HT7.out.rf.own.form
                rw [hv] at r1
                clear hv
                go_wp2
                go_quiet ((first
                  | (go_at_call 17; exact quiet_var (fun W hk => wr_now (HT7.out.wh.still hk)))
                  | (go_at_call 14; exact quiet_var (fun W hk => wr_len (HT7.out.wh.still hk)))))
                go_wp2_with fail
                go_roundw
                case rel => exact ⟨i + 1, m, n, L, B, v, by omega, by omega, by omega, HLX.out, by go_num, HT7.out.still (Kept.drewN [] _ _)⟩
                case measure => simp [intOf]; omega
              · have HNX := hid (fun t ht e => hex ⟨t, ht, e⟩ : ∀ t ∈ L, t.id ≠ id)
                clear hex
                go_wp2_with fail
                refine (wr_due_none HT.out.wh id HID.out HNX.out).mono ?_
                rintro e w7 ⟨rfl, rfl⟩
                have HT7 := hid HT.out
                go_wp2_with fail
                refine (rdue HT7.out.rf id (by have := HLX.out; omega) 0 false (.inr ⟨rfl, rfl, HNX.out⟩)).mono ?_
                rintro e w8 ⟨rfl, rfl⟩
                have r0 := HT7.out.rf.c0
                have r1 := HT7.out.rf.c1
                obtain ⟨va, vc, hv, _, _⟩ := HT7.out.rf.own.form
                rw [hv] at r1
                clear hv
                go_wp2
                go_quiet ((first
                  | (go_at_call 17; exact quiet_var (fun W hk => wr_now (HT7.out.wh.still hk)))
                  | (go_at_call 14; exact quiet_var (fun W hk => wr_len (HT7.out.wh.still hk)))))
                go_wp2_with fail
                go_roundw
                case rel => exact ⟨i + 1, m, n, L, B, v, by omega, by omega, by omega, HLX.out, by go_num, HT7.out.still (Kept.drewN [] _ _)⟩
                case measure => simp [intOf]; omega
    · have hex : i = xs.length ∨ (i < xs.length ∧ i = 80) := by omega
      have HT := hid hT
      clear hT hlt
      rcases hex with hex | ⟨hex1, hex⟩
      all_goals
        subst hex
        go_wp2
        go_ret
        exact ⟨rfl, HT.out.kp⟩
end WheelPlays
end Go.Proofs.Ytdnaeebehkplpaa
