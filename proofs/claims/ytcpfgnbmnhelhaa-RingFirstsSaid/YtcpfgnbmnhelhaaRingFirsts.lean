/- RingFirsts answers true: the walk. -/
import Derived.Test.YtcpfgnbmnhelhaaAwake
namespace Go.Proofs.Ytcpfgnbmnhelhaa
namespace RingFirsts
open Go.RowKit
set_option linter.unusedVariables false
set_option linter.unusedSimpArgs false

abbrev RG (w : World) (b bs m : Nat) (l : List Value) : Prop := Ring 9 81 w b bs m l

set_option maxHeartbeats 2000000 in
theorem walk (w : World) (a : Option Addr) (n cap : Nat) (xs : List Value) (hs : Sl w (.slice a n cap) xs) (ho : ∀ x ∈ xs, ∃ s : ByteArray, x = .string s) (d : Int) (hd : 0 ≤ d ∧ d ≤ 255) (f : Int) (hf : 0 ≤ f ∧ f ≤ 255) :
    Calls Try.prog 7 #[.slice a n cap, .int .u8 d, .int .u8 f] w fun e w' => e = .returned (.bool true) ∧ Kept [] w w' := by
  obtain ⟨hn, hcap, hmax⟩ := hs.len
  subst hn
  obtain ⟨d0, d1⟩ := hd
  obtain ⟨f0, f1⟩ := hf
  by_cases hbig : 200 < xs.length
  · have hbig' : (200 : Int) < (xs.length : Int) := by omega
    go_enter Try.func7, Try.ntmps7
    go_wp2_with fail
    refine (awake_true w).mono ?_
    rintro e w1 ⟨rfl, hK1⟩
    go_wp2_with fail
    refine (awake_true w1).mono ?_
    rintro e w2 ⟨rfl, hK2⟩
    go_wp2_with fail
    go_ret
    exact ⟨rfl, hK1.trans hK2⟩
  have hlen : xs.length ≤ 200 := by omega
  have hbig' : ¬ (200 : Int) < (xs.length : Int) := by omega
  obtain ⟨k, hk⟩ : ∃ k : Nat, d % ((xs.length : Int) + 1) = (k : Int) := ⟨(d % ((xs.length : Int) + 1)).toNat, by have := Int.emod_nonneg d (b := (xs.length : Int) + 1) (by omega); omega⟩
  have hkl : k ≤ xs.length := by have := Int.emod_lt_of_pos d (b := (xs.length : Int) + 1) (by omega); omega
  have Hk := hid hk
  clear hk
  go_enter Try.func7, Try.ntmps7
  go_wp2_with fail
  refine (awake_true w).mono ?_
  rintro e w1 ⟨rfl, hK1⟩
  go_wp2_with fail
  refine (RSt.new_any 256 256 rfl w1 (by omega) (by omega)).mono ?_
  rintro e w2 ⟨b, bs, rfl, hR, hK2, hb, hbs⟩
  have hK := hK1.trans hK2
  have hb : w.heap.size ≤ b := by have := hK1.size; omega
  have hbs : w.heap.size ≤ bs := by have := hK1.size; omega
  clear hK1 hK2
  go_wp2_with fail
  go_loopw [9] (fun iv wr => ∃ i : Nat, i ≤ xs.length ∧ iv = .int .i64 (i : Int) ∧ RG wr b bs 256 (xs.take i) ∧ Kept [] w wr) (fun iv _ => xs.length - (intOf iv).toNat)
  case atStart => exact ⟨0, by omega, rfl, hR, hK⟩
  case round =>
    clear hR hK
    obtain ⟨i, h1, rfl, hR, hK⟩ := hrel
    by_cases hi : i < xs.length
    · obtain ⟨g, off, rfl, hc⟩ := (hs.old hK (by simp)).cell hi
      obtain ⟨s, hx⟩ := ho _ (List.getElem_mem hi)
      have Hx := hid hx
      rw [hx] at hc
      clear hx
      go_wp2_with fail
      refine (RSt.put_ok hR (by rw [List.length_take]; omega) s).mono ?_
      rintro e w3 ⟨rfl, hR3, hK3⟩
      have hR4 : RG w3 b bs 256 (xs.take (i + 1)) := by rw [List.take_succ_eq_append_getElem hi, Hx.out]; exact hR3
      have hK4 := hK.join hK3 (fun i hi hlt => by simp at hi; omega)
      clear hR hK hR3 hK3 hc
      go_wp2_with fail
      go_roundw
      case rel => exact ⟨i + 1, by omega, by go_num, hR4, hK4⟩
      case measure => simp [intOf]; omega
    · obtain rfl : i = xs.length := by omega
      rw [List.take_length] at hR
      go_wp2_with fail
      rw [Hk.out]
      obtain ⟨wo, rfl⟩ : ∃ wo : World, wo = wr := ⟨_, rfl⟩
      go_loopw [11] (fun iv wr => ∃ i : Nat, i ≤ k ∧ iv = .int .i64 (i : Int) ∧ RG wr b bs 256 (xs.drop i) ∧ Kept [] w wr) (fun iv _ => k - (intOf iv).toNat)
      case atStart => exact ⟨0, by omega, rfl, by rw [List.drop_zero]; exact hR, hK⟩
      case round =>
        clear hR hK
        obtain ⟨i, h2, rfl, hR, hK⟩ := hrel
        by_cases hi : i < k
        · have hd : xs.drop i = xs[i] :: xs.drop (i + 1) := List.drop_eq_getElem_cons (by omega)
          rw [hd] at hR
          clear hd
          obtain ⟨s, hx⟩ := ho _ (List.getElem_mem (show i < xs.length by omega))
          rw [hx] at hR
          clear hx
          go_wp2_with fail
          refine (RSt.take_ok hR rfl).mono ?_
          rintro e w3 ⟨rfl, hR3, hK3⟩
          have hK4 := hK.join hK3 (fun i hi hlt => by simp at hi; omega)
          clear hR hK hK3
          go_wp2_with fail
          go_roundw
          case rel => exact ⟨i + 1, by omega, by go_num, hR3, hK4⟩
          case measure => simp [intOf]; omega
        · obtain rfl : i = k := by omega
          obtain ⟨F, hF⟩ : ∃ F : Nat, f = (F : Int) := ⟨f.toNat, by omega⟩
          subst hF
          go_wp2_with fail
          refine (RSt.first_any (F : Int) wr hR (fun x hx => ho x (List.mem_of_mem_drop hx))).mono ?_
          rintro e w3 ⟨v, rfl, hO, hK3⟩
          rw [Int.toNat_natCast] at hO
          have hR3 := hR.kept hK3 (by simp) (by simp)
          have hK4 := hK.trans hK3
          have hBw := hK.size
          have hbl := hR.lt
          clear hR hK
          generalize hB : wr.heap.size = B at *
          generalize hys : (xs.drop i).take F = ys at hO
          have hyl : ys.length ≤ xs.length - i := by rw [← hys]; simp; omega
          have hyx : ∀ j (h : j < ys.length) (h' : i + j < xs.length), ys[j] = xs[i + j] := by intro j h h'; subst hys; simp
          obtain ⟨va, vc, hv, hv1, hv2⟩ := hO.form
          cases hv
          clear hys hB
          have Hyx := hid hyx
          clear hyx
          go_wp2_with fail
          go_loopw [13] (fun iv wr => ∃ j : Nat, j ≤ ys.length ∧ iv = .int .i64 (j : Int) ∧ Sim w3 wr) (fun iv _ => ys.length - (intOf iv).toNat)
          case atStart => exact ⟨0, by omega, rfl, Sim.refl _⟩
          case round =>
            obtain ⟨j, h3, rfl, hS⟩ := hrel
            have hSk : Kept [] w3 wr := hS.kept (Kept.refl _ _)
            have hR5 := hR3.kept hSk (by simp) (by simp)
            have hO5 := hO.kept hSk (not_in_nil _)
            have hK5 := hK4.trans hSk
            by_cases hj : j < ys.length
            · have hij : i + j < xs.length := by omega
              obtain ⟨g, off, rfl, hc⟩ := (hs.old hK5 (by simp)).cell hij
              obtain ⟨g2, off2, rfl, _, hc2, _, _⟩ := hO5.cellAt hj
              obtain ⟨s, hx⟩ := ho _ (List.getElem_mem hij)
              rw [Hyx.out j hj hij] at hc2
              rw [hx] at hc hc2
              have hdj : (xs.drop i)[j]'(by simp; omega) = .string s := by rw [← hx]; simp
              have Hdj := hid hdj
              clear hx hdj
              go_wp2_with fail
              refine (RSt.at_ok hR5 j (by simp; omega)).mono ?_
              rintro e w4 ⟨rfl, kd, rfl⟩
              rw [Hdj.out]
              clear hR5 hO5 hK5 hSk
              have hij1 : (i : Int) + (j : Int) < (xs.length : Int) := by omega
              have hij2 : (0 : Int) ≤ (i : Int) + (j : Int) := by omega
              go_wp2_with fail
              go_quiet (fail)
              go_wp2_with fail
              go_roundw
              case rel => exact ⟨j + 1, by omega, by go_num, ⟨hS.heap, hS.os, hS.tape, hS.output⟩⟩
              case measure => simp [intOf]; omega
            · go_wp2_with fail
              obtain ⟨wo, rfl⟩ : ∃ wo : World, wo = wr := ⟨_, rfl⟩
              go_loopw [16] (fun iv wr => ∃ (j : Nat) (zs : List Value), j ≤ ys.length ∧ iv = .int .i64 (j : Int) ∧ zs.length = ys.length ∧ OwnL B 9 wr (.slice va ys.length vc) zs ∧ RG wr b bs 256 (xs.drop i) ∧ Kept [] w wr) (fun iv _ => ys.length - (intOf iv).toNat)
              case atStart => exact ⟨0, ys, by omega, rfl, rfl, hO5, hR5, hK5⟩
              case round =>
                clear hR5 hO5 hK5 hSk hS hR3 hK4 hO
                obtain ⟨j, zs, h4, rfl, hzl, hO, hR, hK⟩ := hrel
                by_cases hj : j < ys.length
                · obtain ⟨g2, off2, rfl, hg2, hc2, hf2, hst⟩ := hO.cellAt (i := j) (by omega)
                  go_wp2_with fail
                  go_roundw
                  case rel =>
                    have hkk : Kept [g2] wr (wr.setCell ⟨g2, off2 + j, none⟩ (.string ⟨#[115, 112, 111, 105, 108, 116]⟩)) := (Kept.refl _ _).setCell (by simp) _
                    exact ⟨j + 1, _, by omega, by go_num, by rw [List.length_set]; exact hzl, hst _, hR.kept hkk (by simp; omega) (by simp; omega), hK.join hkk (fun q hq hlt => by simp at hq; omega)⟩
                  case measure => simp [intOf]; omega
                · go_wp2_with fail
                  obtain ⟨wo, rfl⟩ : ∃ wo : World, wo = wr := ⟨_, rfl⟩
                  go_loopw [17] (fun iv wr => ∃ j : Nat, i ≤ j ∧ j ≤ xs.length ∧ iv = .int .i64 (j : Int) ∧ RG wr b bs 256 (xs.drop j) ∧ Kept [] w wr) (fun iv _ => xs.length - (intOf iv).toNat)
                  case atStart => exact ⟨i, by omega, by omega, rfl, hR, hK⟩
                  case round =>
                    clear hR hK hO
                    obtain ⟨j, h5, h6, rfl, hR, hK⟩ := hrel
                    by_cases hjx : j < xs.length
                    · have hd : xs.drop j = xs[j] :: xs.drop (j + 1) := List.drop_eq_getElem_cons (by omega)
                      rw [hd] at hR
                      clear hd
                      obtain ⟨s, hx⟩ := ho _ (List.getElem_mem hjx)
                      rw [hx] at hR
                      have Hx := hid hx
                      clear hx
                      go_wp2_with fail
                      refine (RSt.take_ok hR rfl).mono ?_
                      rintro e w4 ⟨rfl, hR3, hK3⟩
                      have hK4 := hK.join hK3 (fun i hi hlt => by simp at hi; omega)
                      obtain ⟨g, off, rfl, hc⟩ := (hs.old hK4 (by simp)).cell hjx
                      rw [Hx.out] at hc
                      clear hR hK hK3
                      go_wp2_with fail
                      go_roundw
                      case rel => exact ⟨j + 1, by omega, by omega, by go_num, hR3, hK4⟩
                      case measure => simp [intOf]; omega
                    · obtain rfl : j = xs.length := by omega
                      rw [List.drop_length] at hR
                      go_wp2_with fail
                      refine (RSt.len_any hR).mono ?_
                      rintro e w4 ⟨rfl, rfl⟩
                      go_wp2_with fail
                      refine (RSt.room_any hR).mono ?_
                      rintro e w4 ⟨rfl, kd, rfl⟩
                      go_wp2_with fail
                      go_ret
                      exact ⟨rfl, hK.drewN' kd⟩
end RingFirsts
end Go.Proofs.Ytcpfgnbmnhelhaa
