/- The wheel's 'turn', walked. -/
import Derived.Test.YtkemkoiknoefdaaWheelTurnB
namespace Go.Proofs.Ytkemkoiknoefdaa
open Go.RowKit Go.Maps
set_option linter.unusedVariables false
set_option linter.unusedSimpArgs false

set_option maxRecDepth 100000 in
set_option maxHeartbeats 4000000 in
theorem turn_any {w : World} {b mb now n cnt sz : Nat} {d : Int → Nat} {vs : Nat → Value} {sl : Nat → List Tm} (h : Wh w b mb now n cnt d sz vs sl) (hn : now ≤ 1152921504606846976) (hok : Ok 1000000 sl) :
    Calls Try.prog 24 #[.pointer (some ⟨b, 0, none⟩)] w (TurnPost w b mb now n cnt d sz vs sl) := by
  have c0 := h.c0
  have hni : (now : Int) ≤ 1152921504606846976 := by omega
  have H := hid h
  have HOK := hid hok
  clear h hok
  go_enter Try.func24, Try.ntmps24
  by_cases hf : now % 1048576 = 0
  · have hfi : ((now : Int) % 1048576 == 0) = true := by simp; omega
    have hc := H.out.cs 80 (by omega)
    have hfz := H.out.fr 83
    have HCL := hid (H.out.clear (p := 80) (by omega))
    have HM := hid hf
    have HLEN := hid (fun j hj => by
      have hel := HOK.out.len 80 (by omega)
      by_cases e : j = 80
      · rw [e, upd_same]; simp; omega
      · rw [upd_other _ _ e]; have := HOK.out.len j hj; omega : ∀ j, j < 81 → (upd sl 80 [] j).length + (sl 80).length ≤ 100000000)
    have HMEM := hid (HOK.out.mem 80 (by omega))
    have HO4 := hid (HOK.out.lvl (now := now) (d := d) (q := 1048576) (p := 80) (by omega) : Ok (2 * 1000000) (part now d sl 4))
    clear H HOK hf
    go_wp2_with fail
    refine (again_any HCL.out.1 hn _ _ HCL.out.2.2.1 HCL.out.2.2.2 HMEM.out HLEN.out).mono ?_
    rintro e w5 ⟨⟨v5, rfl⟩, vs5, h5, ht5⟩
    have HF4 := hid (by show Wh w5 b mb now n cnt d sz vs5 (lvl now d 1048576 80 sl); unfold lvl; rw [if_pos HM.out]; exact h5 : Wh w5 b mb now n cnt d sz vs5 (part now d sl 4))
    have HT4 := hid (HCL.out.2.1.trans ht5)
    clear h5 ht5 HCL HLEN HMEM HM hc hfz
    go_wp2
    go_loopw [3, 4, 5] (fun kv u1 u2 wr => ∃ k : Nat, k ≤ 4 ∧ kv = .int .i64 (k : Int) ∧ ∃ vs', Wh wr b mb now n cnt d sz vs' (part now d sl k) ∧ Turned w b mb vs wr vs' ∧ ∃ B, B ≤ 2 ^ (5 - k) * 1000000 ∧ Ok B (part now d sl k)) (fun kv _ _ _ => (intOf kv).toNat)
    case atStart => exact ⟨4, by omega, rfl, vs5, HF4.out, HT4.out, _, by simp, HO4.out⟩
    case round =>
      clear HF4 HO4 HT4
      obtain ⟨k, hk, rfl, vs', hW, hT, B, hB, hO⟩ := hrel
      have hk4 : k = 0 ∨ k = 1 ∨ k = 2 ∨ k = 3 ∨ k = 4 := by omega
      have c0 := hW.c0
      rcases hk4 with rfl | rfl | rfl | rfl | rfl
      · have HF := hid hW
        have HT := hid hT
        clear hW hT hO
        go_wp2
        go_end0
        exact ⟨⟨_, rfl⟩, vs', HF.out, HT.out⟩
      · have hB2 : B ≤ 16000000 := by simpa using hB
        have hp : 16 + now / 16 % 16 < 81 := by omega
        have HO3 := hid (hO.lvl (now := now) (d := d) (q := 16) hp : Ok (2 * B) (part now d sl 0))
        have HB3 := hid (by simp; omega : 2 * B ≤ 2 ^ (5 - 0) * 1000000)
        by_cases hm : now % 16 = 0
        · have hmi : ((now : Int) % 16 == 0) = true := by simp; omega
          have hc := hW.cs _ hp
          have hfz := hW.fr (19 + now / 16 % 16)
          have ho : 3 + (16 + now / 16 % 16) = 19 + now / 16 % 16 := by omega
          rw [ho] at hc
          have HW := hid hW
          have HT := hid hT
          have HO := hid hO
          have HM := hid hm
          have HCL := hid (fun m => by have := (hW.still (Kept.drewN [] _ m)).clear hp; rw [ho] at this; exact this : ∀ m, _ ∧ _)
          have hel : ((part now d sl 1) (16 + now / 16 % 16)).length ≤ B := hO.len _ hp
          have hlen : ∀ j, j < 81 → (upd (part now d sl 1) (16 + now / 16 % 16) [] j).length + ((part now d sl 1) (16 + now / 16 % 16)).length ≤ 100000000 := fun j hj => by
            by_cases e : j = 16 + now / 16 % 16
            · rw [e, upd_same]; simp; omega
            · rw [upd_other _ _ e]; have := hO.len j hj; omega
          have HLEN := hid hlen
          have HMEM := hid (hO.mem _ hp)
          have KEY := hid (fun m => (again_any (HCL.out m).1 hn _ _ (HCL.out m).2.2.1 (HCL.out m).2.2.2 HMEM.out HLEN.out).mono (fun e w5 h5 => ⟨h5.1, h5.2.choose, h5.2.choose_spec.1, (((Turned.refl wr b mb vs').still (Kept.drewN [] _ m)).trans (HCL.out m).2.1).trans h5.2.choose_spec.2⟩) : ∀ m, Calls Try.prog 25 #[.pointer (some ⟨b, 0, none⟩), vs' (16 + now / 16 % 16)] ((wr.drewN m).setCell ⟨b, 19 + now / 16 % 16, none⟩ (.slice none 0 0)) fun e w5 => (∃ v, e = .returned v) ∧ ∃ vs5, Wh w5 b mb now n cnt d sz vs5 (relay now d (16 + now / 16 % 16) (part now d sl 1)) ∧ Turned wr b mb vs' w5 vs5)
          clear hW hT hO hp ho hm hel hlen
          go_wp2
          go_quiet (fail)
          go_wp2
          go_quiet (fail)
          go_wp2_with fail
          refine (KEY.out _).mono ?_
          rintro e w5 ⟨⟨v5, rfl⟩, vs5, h5, ht5⟩
          have HF := hid (by show Wh w5 b mb now n cnt d sz vs5 (lvl now d 16 (16 + now / 16 % 16) (part now d sl 1)); unfold lvl; rw [if_pos HM.out]; exact h5 : Wh w5 b mb now n cnt d sz vs5 (part now d sl 0))
          have HT5 := hid (HT.out.trans ht5)
          clear h5 ht5
          go_wp2_with fail
          go_roundw
          case rel => exact ⟨0, by omega, rfl, vs5, HF.out, HT5.out, _, HB3.out, HO3.out⟩
          case measure => simp [intOf]
        · have hmi : ((now : Int) % 16 == 0) = false := beq_eq_false_iff_ne.2 (by omega)
          have HF := hid (by show Wh wr b mb now n cnt d sz vs' (lvl now d 16 (16 + now / 16 % 16) (part now d sl 1)); unfold lvl; rw [if_neg hm]; exact hW : Wh wr b mb now n cnt d sz vs' (part now d sl 0))
          have HT := hid hT
          clear hW hT hO hm hp
          go_wp2
          go_quiet (fail)
          go_wp2_with fail
          go_roundw
          case rel => exact ⟨0, by omega, rfl, vs', HF.out.still (Kept.drewN [] _ _), HT.out.still (Kept.drewN [] _ _), _, HB3.out, HO3.out⟩
          case measure => simp [intOf]
      · have hB2 : B ≤ 8000000 := by simpa using hB
        have hp : 32 + now / 256 % 16 < 81 := by omega
        have HO3 := hid (hO.lvl (now := now) (d := d) (q := 256) hp : Ok (2 * B) (part now d sl 1))
        have HB3 := hid (by simp; omega : 2 * B ≤ 2 ^ (5 - 1) * 1000000)
        by_cases hm : now % 256 = 0
        · have hmi : ((now : Int) % 256 == 0) = true := by simp; omega
          have hc := hW.cs _ hp
          have hfz := hW.fr (35 + now / 256 % 16)
          have ho : 3 + (32 + now / 256 % 16) = 35 + now / 256 % 16 := by omega
          rw [ho] at hc
          have HW := hid hW
          have HT := hid hT
          have HO := hid hO
          have HM := hid hm
          have HCL := hid (fun m => by have := (hW.still (Kept.drewN [] _ m)).clear hp; rw [ho] at this; exact this : ∀ m, _ ∧ _)
          have hel : ((part now d sl 2) (32 + now / 256 % 16)).length ≤ B := hO.len _ hp
          have hlen : ∀ j, j < 81 → (upd (part now d sl 2) (32 + now / 256 % 16) [] j).length + ((part now d sl 2) (32 + now / 256 % 16)).length ≤ 100000000 := fun j hj => by
            by_cases e : j = 32 + now / 256 % 16
            · rw [e, upd_same]; simp; omega
            · rw [upd_other _ _ e]; have := hO.len j hj; omega
          have HLEN := hid hlen
          have HMEM := hid (hO.mem _ hp)
          have KEY := hid (fun m => (again_any (HCL.out m).1 hn _ _ (HCL.out m).2.2.1 (HCL.out m).2.2.2 HMEM.out HLEN.out).mono (fun e w5 h5 => ⟨h5.1, h5.2.choose, h5.2.choose_spec.1, (((Turned.refl wr b mb vs').still (Kept.drewN [] _ m)).trans (HCL.out m).2.1).trans h5.2.choose_spec.2⟩) : ∀ m, Calls Try.prog 25 #[.pointer (some ⟨b, 0, none⟩), vs' (32 + now / 256 % 16)] ((wr.drewN m).setCell ⟨b, 35 + now / 256 % 16, none⟩ (.slice none 0 0)) fun e w5 => (∃ v, e = .returned v) ∧ ∃ vs5, Wh w5 b mb now n cnt d sz vs5 (relay now d (32 + now / 256 % 16) (part now d sl 2)) ∧ Turned wr b mb vs' w5 vs5)
          clear hW hT hO hp ho hm hel hlen
          go_wp2
          go_quiet (fail)
          go_wp2
          go_quiet (fail)
          go_wp2_with fail
          refine (KEY.out _).mono ?_
          rintro e w5 ⟨⟨v5, rfl⟩, vs5, h5, ht5⟩
          have HF := hid (by show Wh w5 b mb now n cnt d sz vs5 (lvl now d 256 (32 + now / 256 % 16) (part now d sl 2)); unfold lvl; rw [if_pos HM.out]; exact h5 : Wh w5 b mb now n cnt d sz vs5 (part now d sl 1))
          have HT5 := hid (HT.out.trans ht5)
          clear h5 ht5
          go_wp2_with fail
          go_roundw
          case rel => exact ⟨1, by omega, rfl, vs5, HF.out, HT5.out, _, HB3.out, HO3.out⟩
          case measure => simp [intOf]
        · have hmi : ((now : Int) % 256 == 0) = false := beq_eq_false_iff_ne.2 (by omega)
          have HF := hid (by show Wh wr b mb now n cnt d sz vs' (lvl now d 256 (32 + now / 256 % 16) (part now d sl 2)); unfold lvl; rw [if_neg hm]; exact hW : Wh wr b mb now n cnt d sz vs' (part now d sl 1))
          have HT := hid hT
          clear hW hT hO hm hp
          go_wp2
          go_quiet (fail)
          go_wp2_with fail
          go_roundw
          case rel => exact ⟨1, by omega, rfl, vs', HF.out.still (Kept.drewN [] _ _), HT.out.still (Kept.drewN [] _ _), _, HB3.out, HO3.out⟩
          case measure => simp [intOf]
      · have hB2 : B ≤ 4000000 := by simpa using hB
        have hp : 48 + now / 4096 % 16 < 81 := by omega
        have HO3 := hid (hO.lvl (now := now) (d := d) (q := 4096) hp : Ok (2 * B) (part now d sl 2))
        have HB3 := hid (by simp; omega : 2 * B ≤ 2 ^ (5 - 2) * 1000000)
        by_cases hm : now % 4096 = 0
        · have hmi : ((now : Int) % 4096 == 0) = true := by simp; omega
          have hc := hW.cs _ hp
          have hfz := hW.fr (51 + now / 4096 % 16)
          have ho : 3 + (48 + now / 4096 % 16) = 51 + now / 4096 % 16 := by omega
          rw [ho] at hc
          have HW := hid hW
          have HT := hid hT
          have HO := hid hO
          have HM := hid hm
          have HCL := hid (fun m => by have := (hW.still (Kept.drewN [] _ m)).clear hp; rw [ho] at this; exact this : ∀ m, _ ∧ _)
          have hel : ((part now d sl 3) (48 + now / 4096 % 16)).length ≤ B := hO.len _ hp
          have hlen : ∀ j, j < 81 → (upd (part now d sl 3) (48 + now / 4096 % 16) [] j).length + ((part now d sl 3) (48 + now / 4096 % 16)).length ≤ 100000000 := fun j hj => by
            by_cases e : j = 48 + now / 4096 % 16
            · rw [e, upd_same]; simp; omega
            · rw [upd_other _ _ e]; have := hO.len j hj; omega
          have HLEN := hid hlen
          have HMEM := hid (hO.mem _ hp)
          have KEY := hid (fun m => (again_any (HCL.out m).1 hn _ _ (HCL.out m).2.2.1 (HCL.out m).2.2.2 HMEM.out HLEN.out).mono (fun e w5 h5 => ⟨h5.1, h5.2.choose, h5.2.choose_spec.1, (((Turned.refl wr b mb vs').still (Kept.drewN [] _ m)).trans (HCL.out m).2.1).trans h5.2.choose_spec.2⟩) : ∀ m, Calls Try.prog 25 #[.pointer (some ⟨b, 0, none⟩), vs' (48 + now / 4096 % 16)] ((wr.drewN m).setCell ⟨b, 51 + now / 4096 % 16, none⟩ (.slice none 0 0)) fun e w5 => (∃ v, e = .returned v) ∧ ∃ vs5, Wh w5 b mb now n cnt d sz vs5 (relay now d (48 + now / 4096 % 16) (part now d sl 3)) ∧ Turned wr b mb vs' w5 vs5)
          clear hW hT hO hp ho hm hel hlen
          go_wp2
          go_quiet (fail)
          go_wp2
          go_quiet (fail)
          go_wp2_with fail
          refine (KEY.out _).mono ?_
          rintro e w5 ⟨⟨v5, rfl⟩, vs5, h5, ht5⟩
          have HF := hid (by show Wh w5 b mb now n cnt d sz vs5 (lvl now d 4096 (48 + now / 4096 % 16) (part now d sl 3)); unfold lvl; rw [if_pos HM.out]; exact h5 : Wh w5 b mb now n cnt d sz vs5 (part now d sl 2))
          have HT5 := hid (HT.out.trans ht5)
          clear h5 ht5
          go_wp2_with fail
          go_roundw
          case rel => exact ⟨2, by omega, rfl, vs5, HF.out, HT5.out, _, HB3.out, HO3.out⟩
          case measure => simp [intOf]
        · have hmi : ((now : Int) % 4096 == 0) = false := beq_eq_false_iff_ne.2 (by omega)
          have HF := hid (by show Wh wr b mb now n cnt d sz vs' (lvl now d 4096 (48 + now / 4096 % 16) (part now d sl 3)); unfold lvl; rw [if_neg hm]; exact hW : Wh wr b mb now n cnt d sz vs' (part now d sl 2))
          have HT := hid hT
          clear hW hT hO hm hp
          go_wp2
          go_quiet (fail)
          go_wp2_with fail
          go_roundw
          case rel => exact ⟨2, by omega, rfl, vs', HF.out.still (Kept.drewN [] _ _), HT.out.still (Kept.drewN [] _ _), _, HB3.out, HO3.out⟩
          case measure => simp [intOf]
      · have hB2 : B ≤ 2000000 := by simpa using hB
        have hp : 64 + now / 65536 % 16 < 81 := by omega
        have HO3 := hid (hO.lvl (now := now) (d := d) (q := 65536) hp : Ok (2 * B) (part now d sl 3))
        have HB3 := hid (by simp; omega : 2 * B ≤ 2 ^ (5 - 3) * 1000000)
        by_cases hm : now % 65536 = 0
        · have hmi : ((now : Int) % 65536 == 0) = true := by simp; omega
          have hc := hW.cs _ hp
          have hfz := hW.fr (67 + now / 65536 % 16)
          have ho : 3 + (64 + now / 65536 % 16) = 67 + now / 65536 % 16 := by omega
          rw [ho] at hc
          have HW := hid hW
          have HT := hid hT
          have HO := hid hO
          have HM := hid hm
          have HCL := hid (fun m => by have := (hW.still (Kept.drewN [] _ m)).clear hp; rw [ho] at this; exact this : ∀ m, _ ∧ _)
          have hel : ((part now d sl 4) (64 + now / 65536 % 16)).length ≤ B := hO.len _ hp
          have hlen : ∀ j, j < 81 → (upd (part now d sl 4) (64 + now / 65536 % 16) [] j).length + ((part now d sl 4) (64 + now / 65536 % 16)).length ≤ 100000000 := fun j hj => by
            by_cases e : j = 64 + now / 65536 % 16
            · rw [e, upd_same]; simp; omega
            · rw [upd_other _ _ e]; have := hO.len j hj; omega
          have HLEN := hid hlen
          have HMEM := hid (hO.mem _ hp)
          have KEY := hid (fun m => (again_any (HCL.out m).1 hn _ _ (HCL.out m).2.2.1 (HCL.out m).2.2.2 HMEM.out HLEN.out).mono (fun e w5 h5 => ⟨h5.1, h5.2.choose, h5.2.choose_spec.1, (((Turned.refl wr b mb vs').still (Kept.drewN [] _ m)).trans (HCL.out m).2.1).trans h5.2.choose_spec.2⟩) : ∀ m, Calls Try.prog 25 #[.pointer (some ⟨b, 0, none⟩), vs' (64 + now / 65536 % 16)] ((wr.drewN m).setCell ⟨b, 67 + now / 65536 % 16, none⟩ (.slice none 0 0)) fun e w5 => (∃ v, e = .returned v) ∧ ∃ vs5, Wh w5 b mb now n cnt d sz vs5 (relay now d (64 + now / 65536 % 16) (part now d sl 4)) ∧ Turned wr b mb vs' w5 vs5)
          clear hW hT hO hp ho hm hel hlen
          go_wp2
          go_quiet (fail)
          go_wp2
          go_quiet (fail)
          go_wp2_with fail
          refine (KEY.out _).mono ?_
          rintro e w5 ⟨⟨v5, rfl⟩, vs5, h5, ht5⟩
          have HF := hid (by show Wh w5 b mb now n cnt d sz vs5 (lvl now d 65536 (64 + now / 65536 % 16) (part now d sl 4)); unfold lvl; rw [if_pos HM.out]; exact h5 : Wh w5 b mb now n cnt d sz vs5 (part now d sl 3))
          have HT5 := hid (HT.out.trans ht5)
          clear h5 ht5
          go_wp2_with fail
          go_roundw
          case rel => exact ⟨3, by omega, rfl, vs5, HF.out, HT5.out, _, HB3.out, HO3.out⟩
          case measure => simp [intOf]
        · have hmi : ((now : Int) % 65536 == 0) = false := beq_eq_false_iff_ne.2 (by omega)
          have HF := hid (by show Wh wr b mb now n cnt d sz vs' (lvl now d 65536 (64 + now / 65536 % 16) (part now d sl 4)); unfold lvl; rw [if_neg hm]; exact hW : Wh wr b mb now n cnt d sz vs' (part now d sl 3))
          have HT := hid hT
          clear hW hT hO hm hp
          go_wp2
          go_quiet (fail)
          go_wp2_with fail
          go_roundw
          case rel => exact ⟨3, by omega, rfl, vs', HF.out.still (Kept.drewN [] _ _), HT.out.still (Kept.drewN [] _ _), _, HB3.out, HO3.out⟩
          case measure => simp [intOf]
  · have hfi : ((now : Int) % 1048576 == 0) = false := beq_eq_false_iff_ne.2 (by omega)
    have HF4 := hid (by show Wh w b mb now n cnt d sz vs (lvl now d 1048576 80 sl); unfold lvl; rw [if_neg hf]; exact H.out : Wh w b mb now n cnt d sz vs (part now d sl 4))
    have HO4 := hid (HOK.out.lvl (now := now) (d := d) (q := 1048576) (p := 80) (by omega) : Ok (2 * 1000000) (part now d sl 4))
    clear H HOK hf
    go_wp2
    go_loopw [3, 4, 5] (fun kv u1 u2 wr => ∃ k : Nat, k ≤ 4 ∧ kv = .int .i64 (k : Int) ∧ ∃ vs', Wh wr b mb now n cnt d sz vs' (part now d sl k) ∧ Turned w b mb vs wr vs' ∧ ∃ B, B ≤ 2 ^ (5 - k) * 1000000 ∧ Ok B (part now d sl k)) (fun kv _ _ _ => (intOf kv).toNat)
    case atStart => exact ⟨4, by omega, rfl, vs, HF4.out, Turned.refl _ _ _ _, _, by simp, HO4.out⟩
    case round =>
      clear HF4 HO4
      obtain ⟨k, hk, rfl, vs', hW, hT, B, hB, hO⟩ := hrel
      have hk4 : k = 0 ∨ k = 1 ∨ k = 2 ∨ k = 3 ∨ k = 4 := by omega
      have c0 := hW.c0
      rcases hk4 with rfl | rfl | rfl | rfl | rfl
      · have HF := hid hW
        have HT := hid hT
        clear hW hT hO
        go_wp2
        go_end0
        exact ⟨⟨_, rfl⟩, vs', HF.out, HT.out⟩
      · have hB2 : B ≤ 16000000 := by simpa using hB
        have hp : 16 + now / 16 % 16 < 81 := by omega
        have HO3 := hid (hO.lvl (now := now) (d := d) (q := 16) hp : Ok (2 * B) (part now d sl 0))
        have HB3 := hid (by simp; omega : 2 * B ≤ 2 ^ (5 - 0) * 1000000)
        by_cases hm : now % 16 = 0
        · have hmi : ((now : Int) % 16 == 0) = true := by simp; omega
          have hc := hW.cs _ hp
          have hfz := hW.fr (19 + now / 16 % 16)
          have ho : 3 + (16 + now / 16 % 16) = 19 + now / 16 % 16 := by omega
          rw [ho] at hc
          have HW := hid hW
          have HT := hid hT
          have HO := hid hO
          have HM := hid hm
          have HCL := hid (fun m => by have := (hW.still (Kept.drewN [] _ m)).clear hp; rw [ho] at this; exact this : ∀ m, _ ∧ _)
          have hel : ((part now d sl 1) (16 + now / 16 % 16)).length ≤ B := hO.len _ hp
          have hlen : ∀ j, j < 81 → (upd (part now d sl 1) (16 + now / 16 % 16) [] j).length + ((part now d sl 1) (16 + now / 16 % 16)).length ≤ 100000000 := fun j hj => by
            by_cases e : j = 16 + now / 16 % 16
            · rw [e, upd_same]; simp; omega
            · rw [upd_other _ _ e]; have := hO.len j hj; omega
          have HLEN := hid hlen
          have HMEM := hid (hO.mem _ hp)
          have KEY := hid (fun m => (again_any (HCL.out m).1 hn _ _ (HCL.out m).2.2.1 (HCL.out m).2.2.2 HMEM.out HLEN.out).mono (fun e w5 h5 => ⟨h5.1, h5.2.choose, h5.2.choose_spec.1, (((Turned.refl wr b mb vs').still (Kept.drewN [] _ m)).trans (HCL.out m).2.1).trans h5.2.choose_spec.2⟩) : ∀ m, Calls Try.prog 25 #[.pointer (some ⟨b, 0, none⟩), vs' (16 + now / 16 % 16)] ((wr.drewN m).setCell ⟨b, 19 + now / 16 % 16, none⟩ (.slice none 0 0)) fun e w5 => (∃ v, e = .returned v) ∧ ∃ vs5, Wh w5 b mb now n cnt d sz vs5 (relay now d (16 + now / 16 % 16) (part now d sl 1)) ∧ Turned wr b mb vs' w5 vs5)
          clear hW hT hO hp ho hm hel hlen
          go_wp2
          go_quiet (fail)
          go_wp2
          go_quiet (fail)
          go_wp2_with fail
          refine (KEY.out _).mono ?_
          rintro e w5 ⟨⟨v5, rfl⟩, vs5, h5, ht5⟩
          have HF := hid (by show Wh w5 b mb now n cnt d sz vs5 (lvl now d 16 (16 + now / 16 % 16) (part now d sl 1)); unfold lvl; rw [if_pos HM.out]; exact h5 : Wh w5 b mb now n cnt d sz vs5 (part now d sl 0))
          have HT5 := hid (HT.out.trans ht5)
          clear h5 ht5
          go_wp2_with fail
          go_roundw
          case rel => exact ⟨0, by omega, rfl, vs5, HF.out, HT5.out, _, HB3.out, HO3.out⟩
          case measure => simp [intOf]
        · have hmi : ((now : Int) % 16 == 0) = false := beq_eq_false_iff_ne.2 (by omega)
          have HF := hid (by show Wh wr b mb now n cnt d sz vs' (lvl now d 16 (16 + now / 16 % 16) (part now d sl 1)); unfold lvl; rw [if_neg hm]; exact hW : Wh wr b mb now n cnt d sz vs' (part now d sl 0))
          have HT := hid hT
          clear hW hT hO hm hp
          go_wp2
          go_quiet (fail)
          go_wp2_with fail
          go_roundw
          case rel => exact ⟨0, by omega, rfl, vs', HF.out.still (Kept.drewN [] _ _), HT.out.still (Kept.drewN [] _ _), _, HB3.out, HO3.out⟩
          case measure => simp [intOf]
      · have hB2 : B ≤ 8000000 := by simpa using hB
        have hp : 32 + now / 256 % 16 < 81 := by omega
        have HO3 := hid (hO.lvl (now := now) (d := d) (q := 256) hp : Ok (2 * B) (part now d sl 1))
        have HB3 := hid (by simp; omega : 2 * B ≤ 2 ^ (5 - 1) * 1000000)
        by_cases hm : now % 256 = 0
        · have hmi : ((now : Int) % 256 == 0) = true := by simp; omega
          have hc := hW.cs _ hp
          have hfz := hW.fr (35 + now / 256 % 16)
          have ho : 3 + (32 + now / 256 % 16) = 35 + now / 256 % 16 := by omega
          rw [ho] at hc
          have HW := hid hW
          have HT := hid hT
          have HO := hid hO
          have HM := hid hm
          have HCL := hid (fun m => by have := (hW.still (Kept.drewN [] _ m)).clear hp; rw [ho] at this; exact this : ∀ m, _ ∧ _)
          have hel : ((part now d sl 2) (32 + now / 256 % 16)).length ≤ B := hO.len _ hp
          have hlen : ∀ j, j < 81 → (upd (part now d sl 2) (32 + now / 256 % 16) [] j).length + ((part now d sl 2) (32 + now / 256 % 16)).length ≤ 100000000 := fun j hj => by
            by_cases e : j = 32 + now / 256 % 16
            · rw [e, upd_same]; simp; omega
            · rw [upd_other _ _ e]; have := hO.len j hj; omega
          have HLEN := hid hlen
          have HMEM := hid (hO.mem _ hp)
          have KEY := hid (fun m => (again_any (HCL.out m).1 hn _ _ (HCL.out m).2.2.1 (HCL.out m).2.2.2 HMEM.out HLEN.out).mono (fun e w5 h5 => ⟨h5.1, h5.2.choose, h5.2.choose_spec.1, (((Turned.refl wr b mb vs').still (Kept.drewN [] _ m)).trans (HCL.out m).2.1).trans h5.2.choose_spec.2⟩) : ∀ m, Calls Try.prog 25 #[.pointer (some ⟨b, 0, none⟩), vs' (32 + now / 256 % 16)] ((wr.drewN m).setCell ⟨b, 35 + now / 256 % 16, none⟩ (.slice none 0 0)) fun e w5 => (∃ v, e = .returned v) ∧ ∃ vs5, Wh w5 b mb now n cnt d sz vs5 (relay now d (32 + now / 256 % 16) (part now d sl 2)) ∧ Turned wr b mb vs' w5 vs5)
          clear hW hT hO hp ho hm hel hlen
          go_wp2
          go_quiet (fail)
          go_wp2
          go_quiet (fail)
          go_wp2_with fail
          refine (KEY.out _).mono ?_
          rintro e w5 ⟨⟨v5, rfl⟩, vs5, h5, ht5⟩
          have HF := hid (by show Wh w5 b mb now n cnt d sz vs5 (lvl now d 256 (32 + now / 256 % 16) (part now d sl 2)); unfold lvl; rw [if_pos HM.out]; exact h5 : Wh w5 b mb now n cnt d sz vs5 (part now d sl 1))
          have HT5 := hid (HT.out.trans ht5)
          clear h5 ht5
          go_wp2_with fail
          go_roundw
          case rel => exact ⟨1, by omega, rfl, vs5, HF.out, HT5.out, _, HB3.out, HO3.out⟩
          case measure => simp [intOf]
        · have hmi : ((now : Int) % 256 == 0) = false := beq_eq_false_iff_ne.2 (by omega)
          have HF := hid (by show Wh wr b mb now n cnt d sz vs' (lvl now d 256 (32 + now / 256 % 16) (part now d sl 2)); unfold lvl; rw [if_neg hm]; exact hW : Wh wr b mb now n cnt d sz vs' (part now d sl 1))
          have HT := hid hT
          clear hW hT hO hm hp
          go_wp2
          go_quiet (fail)
          go_wp2_with fail
          go_roundw
          case rel => exact ⟨1, by omega, rfl, vs', HF.out.still (Kept.drewN [] _ _), HT.out.still (Kept.drewN [] _ _), _, HB3.out, HO3.out⟩
          case measure => simp [intOf]
      · have hB2 : B ≤ 4000000 := by simpa using hB
        have hp : 48 + now / 4096 % 16 < 81 := by omega
        have HO3 := hid (hO.lvl (now := now) (d := d) (q := 4096) hp : Ok (2 * B) (part now d sl 2))
        have HB3 := hid (by simp; omega : 2 * B ≤ 2 ^ (5 - 2) * 1000000)
        by_cases hm : now % 4096 = 0
        · have hmi : ((now : Int) % 4096 == 0) = true := by simp; omega
          have hc := hW.cs _ hp
          have hfz := hW.fr (51 + now / 4096 % 16)
          have ho : 3 + (48 + now / 4096 % 16) = 51 + now / 4096 % 16 := by omega
          rw [ho] at hc
          have HW := hid hW
          have HT := hid hT
          have HO := hid hO
          have HM := hid hm
          have HCL := hid (fun m => by have := (hW.still (Kept.drewN [] _ m)).clear hp; rw [ho] at this; exact this : ∀ m, _ ∧ _)
          have hel : ((part now d sl 3) (48 + now / 4096 % 16)).length ≤ B := hO.len _ hp
          have hlen : ∀ j, j < 81 → (upd (part now d sl 3) (48 + now / 4096 % 16) [] j).length + ((part now d sl 3) (48 + now / 4096 % 16)).length ≤ 100000000 := fun j hj => by
            by_cases e : j = 48 + now / 4096 % 16
            · rw [e, upd_same]; simp; omega
            · rw [upd_other _ _ e]; have := hO.len j hj; omega
          have HLEN := hid hlen
          have HMEM := hid (hO.mem _ hp)
          have KEY := hid (fun m => (again_any (HCL.out m).1 hn _ _ (HCL.out m).2.2.1 (HCL.out m).2.2.2 HMEM.out HLEN.out).mono (fun e w5 h5 => ⟨h5.1, h5.2.choose, h5.2.choose_spec.1, (((Turned.refl wr b mb vs').still (Kept.drewN [] _ m)).trans (HCL.out m).2.1).trans h5.2.choose_spec.2⟩) : ∀ m, Calls Try.prog 25 #[.pointer (some ⟨b, 0, none⟩), vs' (48 + now / 4096 % 16)] ((wr.drewN m).setCell ⟨b, 51 + now / 4096 % 16, none⟩ (.slice none 0 0)) fun e w5 => (∃ v, e = .returned v) ∧ ∃ vs5, Wh w5 b mb now n cnt d sz vs5 (relay now d (48 + now / 4096 % 16) (part now d sl 3)) ∧ Turned wr b mb vs' w5 vs5)
          clear hW hT hO hp ho hm hel hlen
          go_wp2
          go_quiet (fail)
          go_wp2
          go_quiet (fail)
          go_wp2_with fail
          refine (KEY.out _).mono ?_
          rintro e w5 ⟨⟨v5, rfl⟩, vs5, h5, ht5⟩
          have HF := hid (by show Wh w5 b mb now n cnt d sz vs5 (lvl now d 4096 (48 + now / 4096 % 16) (part now d sl 3)); unfold lvl; rw [if_pos HM.out]; exact h5 : Wh w5 b mb now n cnt d sz vs5 (part now d sl 2))
          have HT5 := hid (HT.out.trans ht5)
          clear h5 ht5
          go_wp2_with fail
          go_roundw
          case rel => exact ⟨2, by omega, rfl, vs5, HF.out, HT5.out, _, HB3.out, HO3.out⟩
          case measure => simp [intOf]
        · have hmi : ((now : Int) % 4096 == 0) = false := beq_eq_false_iff_ne.2 (by omega)
          have HF := hid (by show Wh wr b mb now n cnt d sz vs' (lvl now d 4096 (48 + now / 4096 % 16) (part now d sl 3)); unfold lvl; rw [if_neg hm]; exact hW : Wh wr b mb now n cnt d sz vs' (part now d sl 2))
          have HT := hid hT
          clear hW hT hO hm hp
          go_wp2
          go_quiet (fail)
          go_wp2_with fail
          go_roundw
          case rel => exact ⟨2, by omega, rfl, vs', HF.out.still (Kept.drewN [] _ _), HT.out.still (Kept.drewN [] _ _), _, HB3.out, HO3.out⟩
          case measure => simp [intOf]
      · have hB2 : B ≤ 2000000 := by simpa using hB
        have hp : 64 + now / 65536 % 16 < 81 := by omega
        have HO3 := hid (hO.lvl (now := now) (d := d) (q := 65536) hp : Ok (2 * B) (part now d sl 3))
        have HB3 := hid (by simp; omega : 2 * B ≤ 2 ^ (5 - 3) * 1000000)
        by_cases hm : now % 65536 = 0
        · have hmi : ((now : Int) % 65536 == 0) = true := by simp; omega
          have hc := hW.cs _ hp
          have hfz := hW.fr (67 + now / 65536 % 16)
          have ho : 3 + (64 + now / 65536 % 16) = 67 + now / 65536 % 16 := by omega
          rw [ho] at hc
          have HW := hid hW
          have HT := hid hT
          have HO := hid hO
          have HM := hid hm
          have HCL := hid (fun m => by have := (hW.still (Kept.drewN [] _ m)).clear hp; rw [ho] at this; exact this : ∀ m, _ ∧ _)
          have hel : ((part now d sl 4) (64 + now / 65536 % 16)).length ≤ B := hO.len _ hp
          have hlen : ∀ j, j < 81 → (upd (part now d sl 4) (64 + now / 65536 % 16) [] j).length + ((part now d sl 4) (64 + now / 65536 % 16)).length ≤ 100000000 := fun j hj => by
            by_cases e : j = 64 + now / 65536 % 16
            · rw [e, upd_same]; simp; omega
            · rw [upd_other _ _ e]; have := hO.len j hj; omega
          have HLEN := hid hlen
          have HMEM := hid (hO.mem _ hp)
          have KEY := hid (fun m => (again_any (HCL.out m).1 hn _ _ (HCL.out m).2.2.1 (HCL.out m).2.2.2 HMEM.out HLEN.out).mono (fun e w5 h5 => ⟨h5.1, h5.2.choose, h5.2.choose_spec.1, (((Turned.refl wr b mb vs').still (Kept.drewN [] _ m)).trans (HCL.out m).2.1).trans h5.2.choose_spec.2⟩) : ∀ m, Calls Try.prog 25 #[.pointer (some ⟨b, 0, none⟩), vs' (64 + now / 65536 % 16)] ((wr.drewN m).setCell ⟨b, 67 + now / 65536 % 16, none⟩ (.slice none 0 0)) fun e w5 => (∃ v, e = .returned v) ∧ ∃ vs5, Wh w5 b mb now n cnt d sz vs5 (relay now d (64 + now / 65536 % 16) (part now d sl 4)) ∧ Turned wr b mb vs' w5 vs5)
          clear hW hT hO hp ho hm hel hlen
          go_wp2
          go_quiet (fail)
          go_wp2
          go_quiet (fail)
          go_wp2_with fail
          refine (KEY.out _).mono ?_
          rintro e w5 ⟨⟨v5, rfl⟩, vs5, h5, ht5⟩
          have HF := hid (by show Wh w5 b mb now n cnt d sz vs5 (lvl now d 65536 (64 + now / 65536 % 16) (part now d sl 4)); unfold lvl; rw [if_pos HM.out]; exact h5 : Wh w5 b mb now n cnt d sz vs5 (part now d sl 3))
          have HT5 := hid (HT.out.trans ht5)
          clear h5 ht5
          go_wp2_with fail
          go_roundw
          case rel => exact ⟨3, by omega, rfl, vs5, HF.out, HT5.out, _, HB3.out, HO3.out⟩
          case measure => simp [intOf]
        · have hmi : ((now : Int) % 65536 == 0) = false := beq_eq_false_iff_ne.2 (by omega)
          have HF := hid (by show Wh wr b mb now n cnt d sz vs' (lvl now d 65536 (64 + now / 65536 % 16) (part now d sl 4)); unfold lvl; rw [if_neg hm]; exact hW : Wh wr b mb now n cnt d sz vs' (part now d sl 3))
          have HT := hid hT
          clear hW hT hO hm hp
          go_wp2
          go_quiet (fail)
          go_wp2_with fail
          go_roundw
          case rel => exact ⟨3, by omega, rfl, vs', HF.out.still (Kept.drewN [] _ _), HT.out.still (Kept.drewN [] _ _), _, HB3.out, HO3.out⟩
          case measure => simp [intOf]
end Go.Proofs.Ytkemkoiknoefdaa
