/- SendPlays answers true: the walk. -/
import Derived.Test.YtnbdodgdabgafaaSendAwake
import Derived.Test.YtnbdodgdabgafaaArgs
import Derived.Deep.DeepCutAuto
namespace Go.Proofs.Ytnbdodgdabgafaa
namespace SendPlays
open Go.RowKit
set_option linter.unusedVariables false
set_option linter.unusedSimpArgs false

/-- The law's own slice v holds all, L, that was put; A of it are acked. -/
structure St (w0 wr : World) (c b bs m win A : Nat) (v : Value) (L : List Value) : Prop where
  S : SSt.Send wr c b bs m win A (L.drop A)
  O : OwnL w0.heap.size 9 wr v L
  K : Kept [] w0 wr
  ni : NotIn [c, b, bs] v
  ss : ∀ x ∈ L, ∃ s : ByteArray, x = .string s
  hA : A ≤ L.length
  hc : w0.heap.size ≤ c ∧ w0.heap.size ≤ b ∧ w0.heap.size ≤ bs
variable {w0 wr w3 w4 w' : World} {c b bs m win A : Nat} {v v' : Value} {L : List Value}
theorem St.still (h : St w0 wr c b bs m win A v L) (hk : Kept [] wr w') : St w0 w' c b bs m win A v L :=
  ⟨h.S.kept hk (by simp) (by simp) (by simp), h.O.kept hk (not_in_nil _), h.K.trans hk, h.ni, h.ss, h.hA, h.hc⟩
theorem St.quiet (h : St w0 wr c b bs m win A v L) (k : Nat) : St w0 (wr.drewN k) c b bs m win A v L := h.still (Kept.drewN _ _ k)
theorem St.sstr (h : St w0 wr c b bs m win A v L) : ∀ x ∈ L.drop A, ∃ s : ByteArray, x = .string s := fun x hx => h.ss x (List.mem_of_mem_drop hx)
theorem St.appended {s : ByteArray} (h : St w0 wr c b bs m win A v L) (hS : SSt.Send w3 c b bs m win A (L.drop A ++ [.string s])) (hO : OwnL w0.heap.size 9 w3 v L) (hK : Kept [] w0 w3) (h1 : OwnL w0.heap.size 9 w4 v' (L ++ [.string s]))
    (hg : ∀ S, (∀ k, v.ownBlock = some k → k ∈ S) → Kept S w3 w4) (hl : ∀ k, v'.ownBlock = some k → v.ownBlock = some k ∨ w3.heap.size ≤ k) : St w0 w4 c b bs m win A v' (L ++ [.string s]) := by
  have hlt := hS.lt
  have hAL := h.hA
  have key : ∃ S, Kept S w3 w4 ∧ c ∉ S ∧ b ∉ S ∧ bs ∉ S ∧ ∀ k ∈ S, w0.heap.size ≤ k := by
    cases hv : v.ownBlock with
    | none => exact ⟨[], hg [] (fun k hk => by rw [hv] at hk; cases hk), by simp, by simp, by simp, by simp⟩
    | some g =>
      have h1 := h.ni g hv
      have h2 := (hO.lt g hv).1
      simp at h1
      exact ⟨[g], hg [g] (fun k hk => by rw [hv] at hk; cases hk; simp), by simp; omega, by simp; omega, by simp; omega, fun k hk => by simp at hk; omega⟩
  obtain ⟨S, hSk, n0, n1, n2, n3⟩ := key
  refine ⟨?_, h1, hK.join hSk (fun i hi hlt => by have := n3 i hi; omega), fun k hk => ?_, fun x hx => ?_, by simp; omega, h.hc⟩
  · rw [List.drop_append_of_le_length hAL]; exact hS.kept hSk n0 n1 n2
  · rcases hl k hk with h' | h'
    · exact h.ni k h'
    · simp; omega
  · rcases List.mem_append.1 hx with hx | hx
    · exact h.ss x hx
    · simp at hx; exact ⟨s, hx⟩
theorem St.acked {d : Nat} (h : St w0 wr c b bs m win A v L) (hd : A + d ≤ L.length) (hS : SSt.Send w3 c b bs m win (A + d) ((L.drop A).drop d)) (hk : Kept [c, b, bs] wr w3) : St w0 w3 c b bs m win (A + d) v L :=
  ⟨by rw [← List.drop_drop]; exact hS, h.O.kept hk h.ni, h.K.join hk (fun i hi hlt => by have := h.hc; simp at hi; omega), h.ni, h.ss, hd, h.hc⟩

theorem win_eq {L : List Value} {A W E : Nat} (hA : A ≤ L.length) (hE : (E = A + W ∧ A + W < L.length) ∨ (E = L.length ∧ ¬ A + W < L.length)) : (L.drop A).take W = (L.take E).drop A := by
  rw [List.drop_take]
  rcases hE with ⟨rfl, h⟩ | ⟨rfl, h⟩
  · rw [Nat.add_sub_cancel_left]
  · rw [List.take_of_length_le (l := L.drop A) (i := L.length - A) (by simp), List.take_of_length_le (by simp; omega)]

set_option maxRecDepth 100000 in
set_option maxHeartbeats 4000000 in
theorem walk (w : World) (m : Int) (hm : -9223372036854775808 ≤ m ∧ m ≤ 9223372036854775807) (q : Int) (hq : -9223372036854775808 ≤ q ∧ q ≤ 9223372036854775807) (a : Option Addr) (n cap : Nat) (acts : List (Value × Value × Value)) (hs : Sl3 w (.slice a n cap) acts) (ho : ∀ x ∈ acts, IsInt .u8 x.1 ∧ IsStr x.2.1 ∧ IsInt .u64 x.2.2) :
    Calls Try.prog 6 #[.int .i64 m, .int .i64 q, .slice a n cap] w fun e w' => e = .returned (.bool true) ∧ Kept [] w w' := by
  obtain ⟨hn, hcap, hmax⟩ := hs.len
  subst hn
  clear hm hq
  by_cases hbad : m < 1 ∨ 256 < m
  · go_enter Try.func6, Try.ntmps6
    go_wp2_with fail
    refine (awake_true w).mono ?_
    rintro e w1 ⟨rfl, hK1⟩
    go_wp2_with fail
    refine (SSt.new_bad m q w1 hbad).mono ?_
    rintro e w2 ⟨rfl, rfl⟩
    rcases hbad with hbad | hbad
    · go_wp2_with fail
      go_ret
      exact ⟨rfl, hK1⟩
    · have hbad1 : ¬ m < 1 := by omega
      go_wp2_with fail
      go_ret
      exact ⟨rfl, hK1⟩
  obtain ⟨M, rfl⟩ : ∃ M : Nat, m = (M : Int) := ⟨m.toNat, by omega⟩
  have hM1 : 1 ≤ M := by omega
  have hM2 : M ≤ 256 := by omega
  have hM1' : ¬ (M : Int) < 1 := by omega
  have hM2' : ¬ (256 : Int) < (M : Int) := by omega
  clear hbad
  by_cases hbad : q < 1 ∨ 32 < q
  · have HB := hid hbad
    go_enter Try.func6, Try.ntmps6
    go_wp2_with fail
    refine (awake_true w).mono ?_
    rintro e w1 ⟨rfl, hK1⟩
    go_wp2_with fail
    refine (SSt.new_badw _ q M rfl w1 hM1 hM2 HB.out).mono ?_
    rintro e w2 ⟨rfl, hK2⟩
    rcases hbad with hbad | hbad
    · go_wp2_with fail
      go_ret
      exact ⟨rfl, hK1.trans hK2⟩
    · have hbad1 : ¬ q < 1 := by omega
      go_wp2_with fail
      go_ret
      exact ⟨rfl, hK1.trans hK2⟩
  obtain ⟨W, rfl⟩ : ∃ W : Nat, q = (W : Int) := ⟨q.toNat, by omega⟩
  have hW1 : 1 ≤ W := by omega
  have hW2 : W ≤ 32 := by omega
  have hW1' : ¬ (W : Int) < 1 := by omega
  have hW2' : ¬ (32 : Int) < (W : Int) := by omega
  clear hbad
  go_enter Try.func6, Try.ntmps6
  go_wp2_with fail
  refine (awake_true w).mono ?_
  rintro e w1 ⟨rfl, hK1⟩
  go_wp2_with fail
  refine (SSt.new_any _ _ M W rfl rfl w1 hM1 hM2 hW1 hW2).mono ?_
  rintro e w2 ⟨c, b, bs, rfl, hS, hK2, hc, hb, hbs⟩
  have hst : St w w2 c b bs M W 0 (.slice none 0 0) [] := ⟨hS, OwnL.nil _ _ _, hK1.trans hK2, (fun k hk => by cases hk), (fun x hx => by simp at hx), by simp, by have := hK1.size; omega⟩
  clear hS hK1 hK2 hc hb hbs
  go_wp2_with fail
  go_loopw [9, 10, 11] (fun v av iv wr => ∃ (i A : Nat) (L : List Value), i ≤ acts.length ∧ i ≤ 150 ∧ L.length ≤ i ∧ av = .int .i64 (A : Int) ∧ iv = .int .i64 (i : Int) ∧ St w wr c b bs M W A v L) (fun _ _ iv _ => acts.length - (intOf iv).toNat)
  case atStart => exact ⟨0, 0, [], by omega, by omega, by simp, rfl, rfl, hst⟩
  case round =>
    clear hst
    obtain ⟨i, A, L, h1, h2, h3, rfl, rfl, hst⟩ := hrel
    have hAL := hst.hA
    by_cases hi : i < acts.length
    · by_cases hi2 : i < 150
      · have hi2' : (i : Int) < 150 := by omega
        obtain ⟨g, off, rfl, hc1, hc2, hc3⟩ := (hs.old hst.K (by simp)).cell hi
        obtain ⟨⟨k, hk, wk⟩, ⟨s, hs'⟩, ⟨q, hq, wq⟩⟩ := ho _ (List.getElem_mem hi)
        rw [hk] at hc1
        rw [hs'] at hc2
        rw [hq] at hc3
        obtain ⟨k0, k1⟩ := bounds_u8 wk
        have HQ := hid (bounds_u64 wq)
        clear hk hs' hq wk wq
        obtain ⟨va, vc, hv, hv1, hv2⟩ := hst.O.form
        subst hv
        go_upto_if 67 with (fail)
        go_cut [9, 10] (fun v av wx => ∃ (A : Nat) (L : List Value), L.length ≤ i + 1 ∧ av = .int .i64 (A : Int) ∧ St w wx c b bs M W A v L)
        case first =>
          as_aux_lemma =>
            have hal : Kept [] wr (wr.alloc (.cells #[.int .u8 k, .string s, .int .u64 q] 46)) := (Kept.refl _ _).alloc _
            have hst0 := hst
            have hst := hst.still hal
            have hqb := HQ.out
            clear hal
            by_cases hk2 : k % 4 < 2
            · skip
              by_cases hroom : L.length - A < M
              · have hne : ((L.length : Int) - (A : Int) == (M : Int)) = false := by simp; omega
                go_wp2_with fail
                refine (SSt.put_ok hst.S (by rw [List.length_drop]; exact hroom) s).mono ?_
                rintro e w3 ⟨rfl, hS3, hK3⟩
                have hlt := hst.S.lt
                have hcs : w3.cell? ⟨wr.heap.size, 1, none⟩ = some (.string s) := by
                  rw [cell_of (hK3.blk (blk_alloc_new _ _) (by have := hst0.S.lt; simp; omega))]; rfl
                have hB3 : w.heap.size ≤ w3.heap.size := by have := hst.K.size; have := hK3.size; omega
                have hO3 := hst.O.kept hK3 (fun k hk => by have := hst.ni k hk; simp at this ⊢; omega)
                have hK4 := hst.K.join hK3 (fun j hj hlt => by have := hst.hc; simp at hj; omega)
                go_wp2_with (at_builtin; refine wpList_append_L w3 rfl (.tmp 91) (.tmp 94) 22 rfl w.heap.size 9 _ (.string ⟨#[]⟩) 16 Try.underlying22 RSt.info_elem rfl _ L (.string s) rfl hO3 _ rfl rfl rfl (by unfold maxLen; omega) (by omega) hB3 ?_; intro v' w4 hown' hgrow hlie)
                have hst := St.appended hst hS3 hO3 hK4 hown' hgrow hlie
                go_meet
                exact ⟨A, L ++ [.string s], by simp; omega, rfl, hst⟩
              · have hfull : L.length - A = M := by have := hst.S.ring.le.1; rw [List.length_drop] at this; omega
                have hne : ((L.length : Int) - (A : Int) == (M : Int)) = true := by simp; omega
                have HF := hid hfull
                clear hfull
                go_wp2_with fail
                refine (SSt.put_busy hst.S (by rw [List.length_drop]; exact HF.out) s).mono ?_
                rintro e w3 ⟨rfl, kd, rfl⟩
                have hst := hst.quiet kd
                go_wp2_with fail
                go_meet
                exact ⟨A, L, by omega, rfl, hst⟩
            · have hk2' : ¬ k % 4 < 2 := hk2
              have hk23 : k % 4 = 2 ∨ k % 4 = 3 := by omega
              rcases hk23 with hk3 | hk3
              · skip
                by_cases hwin : W < L.length - A
                · have hwin1 : (W : Int) < (L.length : Int) - (A : Int) := by omega
                  by_cases hstale : q < (A : Int)
                  · skip
                    have hst1 : q < (A : Int) := by omega
                    go_wp2_with fail
                    refine (SSt.ack_stale hst.S (q) hst1).mono ?_
                    rintro e w3 ⟨rfl, rfl⟩
                    go_wp2_with fail
                    go_meet
                    exact ⟨A, L, by omega, rfl, hst⟩
                  · by_cases hov : (A : Int) + (W : Int) < q
                    · skip
                      have hns : ¬ q < (A : Int) := by omega
                      go_wp2_with fail
                      refine (SSt.ack_out hst.S (q) (by omega) (by omega) (by rw [List.length_drop]; omega)).mono ?_
                      rintro e w3 ⟨rfl, k3, rfl⟩
                      have hst := hst.quiet k3
                      go_wp2_with fail
                      go_meet
                      exact ⟨A, L, by omega, rfl, hst⟩
                    · skip
                      obtain ⟨d, rfl⟩ : ∃ d : Nat, q = (A : Int) + (d : Int) := ⟨(q - (A : Int)).toNat, by omega⟩

                      have hov2 : ¬ (A : Int) + (W : Int) < (A : Int) + (d : Int) := by omega
                      have hns : ¬ (A : Int) + (d : Int) < (A : Int) := by omega
                      go_wp2_with fail
                      refine (SSt.ack_ok hst.S _ d rfl (by omega) (by rw [List.length_drop]; omega) hst.sstr).mono ?_
                      rintro e w3 ⟨rfl, hS3, hK3⟩
                      have hst := hst.acked (by omega) hS3 hK3
                      clear hS3 hK3
                      go_wp2_with fail
                      go_meet
                      exact ⟨A + d, L, by omega, by simp, hst⟩
                · have hwin1 : ¬ (W : Int) < (L.length : Int) - (A : Int) := by omega
                  have hed : (A : Int) + ((L.length : Int) - (A : Int)) = (L.length : Int) := by omega
                  by_cases hstale : q < (A : Int)
                  · skip
                    have hst1 : q < (A : Int) := by omega
                    go_wp2_with fail
                    refine (SSt.ack_stale hst.S (q) hst1).mono ?_
                    rintro e w3 ⟨rfl, rfl⟩
                    go_wp2_with fail
                    go_meet
                    exact ⟨A, L, by omega, rfl, hst⟩
                  · by_cases hov : (L.length : Int) < q
                    · skip
                      have hns : ¬ q < (A : Int) := by omega
                      go_wp2_with fail
                      refine (SSt.ack_out hst.S (q) (by omega) (by omega) (by rw [List.length_drop]; omega)).mono ?_
                      rintro e w3 ⟨rfl, k3, rfl⟩
                      have hst := hst.quiet k3
                      go_wp2_with fail
                      go_meet
                      exact ⟨A, L, by omega, rfl, hst⟩
                    · skip
                      obtain ⟨d, rfl⟩ : ∃ d : Nat, q = (A : Int) + (d : Int) := ⟨(q - (A : Int)).toNat, by omega⟩

                      have hov2 : ¬ (L.length : Int) < (A : Int) + (d : Int) := by omega
                      have hns : ¬ (A : Int) + (d : Int) < (A : Int) := by omega
                      go_wp2_with fail
                      refine (SSt.ack_ok hst.S _ d rfl (by omega) (by rw [List.length_drop]; omega) hst.sstr).mono ?_
                      rintro e w3 ⟨rfl, hS3, hK3⟩
                      have hst := hst.acked (by omega) hS3 hK3
                      clear hS3 hK3
                      go_wp2_with fail
                      go_meet
                      exact ⟨A + d, L, by omega, by simp, hst⟩
              · obtain ⟨t, ht⟩ : ∃ t : Nat, q % 5 = (t : Int) := ⟨(q % 5).toNat, by omega⟩
                have ht5 : t < 5 := by omega
                by_cases hwin : W < L.length - A
                · have hwin1 : (W : Int) < (L.length : Int) - (A : Int) := by omega
                  by_cases hstale : (A : Int) + (t : Int) < (A : Int)
                  · skip
                    exfalso; omega
                  · by_cases hov : (A : Int) + (W : Int) < (A : Int) + (t : Int)
                    · skip
                      have hns : ¬ (A : Int) + (t : Int) < (A : Int) := by omega
                      go_wp2_with fail
                      refine (SSt.ack_out hst.S ((A : Int) + (t : Int)) (by omega) (by omega) (by rw [List.length_drop]; omega)).mono ?_
                      rintro e w3 ⟨rfl, k3, rfl⟩
                      have hst := hst.quiet k3
                      go_wp2_with fail
                      go_meet
                      exact ⟨A, L, by omega, rfl, hst⟩
                    · skip
                      have hov2 : ¬ (A : Int) + (W : Int) < (A : Int) + (t : Int) := by omega
                      have hns : ¬ (A : Int) + (t : Int) < (A : Int) := by omega
                      go_wp2_with fail
                      refine (SSt.ack_ok hst.S _ t rfl (by omega) (by rw [List.length_drop]; omega) hst.sstr).mono ?_
                      rintro e w3 ⟨rfl, hS3, hK3⟩
                      have hst := hst.acked (by omega) hS3 hK3
                      clear hS3 hK3
                      go_wp2_with fail
                      go_meet
                      exact ⟨A + t, L, by omega, by simp, hst⟩
                · have hwin1 : ¬ (W : Int) < (L.length : Int) - (A : Int) := by omega
                  have hed : (A : Int) + ((L.length : Int) - (A : Int)) = (L.length : Int) := by omega
                  by_cases hstale : (A : Int) + (t : Int) < (A : Int)
                  · skip
                    exfalso; omega
                  · by_cases hov : (L.length : Int) < (A : Int) + (t : Int)
                    · skip
                      have hns : ¬ (A : Int) + (t : Int) < (A : Int) := by omega
                      go_wp2_with fail
                      refine (SSt.ack_out hst.S ((A : Int) + (t : Int)) (by omega) (by omega) (by rw [List.length_drop]; omega)).mono ?_
                      rintro e w3 ⟨rfl, k3, rfl⟩
                      have hst := hst.quiet k3
                      go_wp2_with fail
                      go_meet
                      exact ⟨A, L, by omega, rfl, hst⟩
                    · skip
                      have hov2 : ¬ (L.length : Int) < (A : Int) + (t : Int) := by omega
                      have hns : ¬ (A : Int) + (t : Int) < (A : Int) := by omega
                      go_wp2_with fail
                      refine (SSt.ack_ok hst.S _ t rfl (by omega) (by rw [List.length_drop]; omega) hst.sstr).mono ?_
                      rintro e w3 ⟨rfl, hS3, hK3⟩
                      have hst := hst.acked (by omega) hS3 hK3
                      clear hS3 hK3
                      go_wp2_with fail
                      go_meet
                      exact ⟨A + t, L, by omega, by simp, hst⟩
        case rest =>
          as_aux_lemma =>
            clear hst hAL
            obtain ⟨A, L, hL, rfl, hst⟩ := hcut
            obtain ⟨va, vc, hv, hv1, hv2⟩ := hst.O.form
            subst hv
            have hAL := hst.hA
            have hroomb := hst.S.ring.le.1
            rw [List.length_drop] at hroomb
            by_cases hend : A + W < L.length
            · skip
              have hend1 : (A : Int) + (W : Int) < (L.length : Int) := by omega
              have HSUB := hid (show ((L.length - A : Nat) : Int) = (L.length : Int) - (A : Int) by omega)
              go_wp2_with fail
              refine (SSt.window_any hst.S hst.sstr).mono ?_
              rintro e w5 ⟨v5, rfl, hO5, hK5⟩
              have hst := hst.still hK5
              obtain ⟨a5, n5, c5, hv5⟩ := hO5.form'
              subst hv5
              have hlst : (L.drop A).take W = (L.take (A + W)).drop A := win_eq hst.hA (by omega)
              rw [hlst] at hO5
              have HO5 := hid hO5.sl
              clear hO5 hK5 hlst
              by_cases hemp : L.length = A
              · exfalso; omega
              · have hAl : A < L.length := by have := hst.hA; omega
                obtain ⟨g9, off9, rfl, _⟩ := hst.O.sl.cell (i := 0) (by omega)
                have hcA : ¬ vc = A := by have := hst.O.sl.len.2; omega
                have hsl2 := (hst.O.sl.take (k := (A + W)) (by omega)).drop (k := A) (by omega)
                rw [Nat.add_sub_cancel_left] at hsl2
                have HSL := hid hsl2
                clear hsl2
                go_wp2_with fail
                refine (same_true _ _ _ _ _ _ _ _ HO5.out HSL.out (fun x hx => hst.ss x (List.mem_of_mem_take (List.mem_of_mem_drop hx)))).mono ?_
                rintro e w6 ⟨rfl, k6, rfl⟩
                have hst := hst.quiet k6
                go_wp2_with fail
                refine (SSt.len_any hst.S).mono ?_
                rintro e w7 ⟨rfl, rfl⟩
                rw [List.length_drop, HSUB.out]
                go_wp2_with fail
                refine (SSt.room_any hst.S).mono ?_
                rintro e w7 ⟨rfl, k7, rfl⟩
                have hst := hst.quiet k7
                rw [World.drewN_drewN] at hst
                rw [List.length_drop, HSUB.out]
                go_wp2_with fail
                refine (SSt.len_any hst.S).mono ?_
                rintro e w7 ⟨rfl, rfl⟩
                rw [List.length_drop, HSUB.out]
                go_wp2_with fail
                refine (SSt.acked_any hst.S).mono ?_
                rintro e w7 ⟨rfl, rfl⟩
                go_wp2_with fail
                go_roundw
                case rel => exact ⟨i + 1, A, L, by omega, by omega, by omega, rfl, by go_num, hst⟩
                case measure => simp [intOf]; omega
            · skip
              have hend1 : ¬ (A : Int) + (W : Int) < (L.length : Int) := by omega
              have HSUB := hid (show ((L.length - A : Nat) : Int) = (L.length : Int) - (A : Int) by omega)
              go_wp2_with fail
              refine (SSt.window_any hst.S hst.sstr).mono ?_
              rintro e w5 ⟨v5, rfl, hO5, hK5⟩
              have hst := hst.still hK5
              obtain ⟨a5, n5, c5, hv5⟩ := hO5.form'
              subst hv5
              have hlst : (L.drop A).take W = (L.take L.length).drop A := win_eq hst.hA (by omega)
              rw [hlst] at hO5
              have HO5 := hid hO5.sl
              clear hO5 hK5 hlst
              by_cases hemp : L.length = A
              · subst hemp
                have hl0 : (L.take L.length).drop L.length = [] := List.eq_nil_of_length_eq_zero (by rw [List.length_drop, List.length_take]; omega)
                rw [hl0] at HO5
                clear hl0
                by_cases hvc : vc = L.length
                · subst hvc
                  go_wp2_with fail
                  refine (same_true _ _ _ _ _ _ _ _ HO5.out (Sl.empty _ _ (by omega)) (fun x hx => by simp at hx)).mono ?_
                  rintro e w6 ⟨rfl, k6, rfl⟩
                  have hst := hst.quiet k6
                  go_wp2_with fail
                  refine (SSt.len_any hst.S).mono ?_
                  rintro e w7 ⟨rfl, rfl⟩
                  rw [List.length_drop, HSUB.out]
                  go_wp2_with fail
                  refine (SSt.room_any hst.S).mono ?_
                  rintro e w7 ⟨rfl, k7, rfl⟩
                  have hst := hst.quiet k7
                  rw [World.drewN_drewN] at hst
                  rw [List.length_drop, HSUB.out]
                  go_wp2_with fail
                  refine (SSt.len_any hst.S).mono ?_
                  rintro e w7 ⟨rfl, rfl⟩
                  rw [List.length_drop, HSUB.out]
                  go_wp2_with fail
                  refine (SSt.acked_any hst.S).mono ?_
                  rintro e w7 ⟨rfl, rfl⟩
                  go_wp2_with fail
                  go_roundw
                  case rel => exact ⟨i + 1, L.length, L, by omega, by omega, by omega, rfl, by go_num, hst⟩
                  case measure => simp [intOf]; omega
                · skip
                  go_wp2_with fail
                  refine (same_true _ _ _ _ _ _ _ _ HO5.out (Sl.empty _ _ (by omega)) (fun x hx => by simp at hx)).mono ?_
                  rintro e w6 ⟨rfl, k6, rfl⟩
                  have hst := hst.quiet k6
                  go_wp2_with fail
                  refine (SSt.len_any hst.S).mono ?_
                  rintro e w7 ⟨rfl, rfl⟩
                  rw [List.length_drop, HSUB.out]
                  go_wp2_with fail
                  refine (SSt.room_any hst.S).mono ?_
                  rintro e w7 ⟨rfl, k7, rfl⟩
                  have hst := hst.quiet k7
                  rw [World.drewN_drewN] at hst
                  rw [List.length_drop, HSUB.out]
                  go_wp2_with fail
                  refine (SSt.len_any hst.S).mono ?_
                  rintro e w7 ⟨rfl, rfl⟩
                  rw [List.length_drop, HSUB.out]
                  go_wp2_with fail
                  refine (SSt.acked_any hst.S).mono ?_
                  rintro e w7 ⟨rfl, rfl⟩
                  go_wp2_with fail
                  go_roundw
                  case rel => exact ⟨i + 1, L.length, L, by omega, by omega, by omega, rfl, by go_num, hst⟩
                  case measure => simp [intOf]; omega
              · have hAl : A < L.length := by have := hst.hA; omega
                obtain ⟨g9, off9, rfl, _⟩ := hst.O.sl.cell (i := 0) (by omega)
                have hcA : ¬ vc = A := by have := hst.O.sl.len.2; omega
                have hsl2 := (hst.O.sl.take (k := L.length) (by omega)).drop (k := A) (by omega)
                have HSL := hid hsl2
                clear hsl2
                go_wp2_with fail
                refine (same_true _ _ _ _ _ _ _ _ HO5.out HSL.out (fun x hx => hst.ss x (List.mem_of_mem_take (List.mem_of_mem_drop hx)))).mono ?_
                rintro e w6 ⟨rfl, k6, rfl⟩
                have hst := hst.quiet k6
                go_wp2_with fail
                refine (SSt.len_any hst.S).mono ?_
                rintro e w7 ⟨rfl, rfl⟩
                rw [List.length_drop, HSUB.out]
                go_wp2_with fail
                refine (SSt.room_any hst.S).mono ?_
                rintro e w7 ⟨rfl, k7, rfl⟩
                have hst := hst.quiet k7
                rw [World.drewN_drewN] at hst
                rw [List.length_drop, HSUB.out]
                go_wp2_with fail
                refine (SSt.len_any hst.S).mono ?_
                rintro e w7 ⟨rfl, rfl⟩
                rw [List.length_drop, HSUB.out]
                go_wp2_with fail
                refine (SSt.acked_any hst.S).mono ?_
                rintro e w7 ⟨rfl, rfl⟩
                go_wp2_with fail
                go_roundw
                case rel => exact ⟨i + 1, A, L, by omega, by omega, by omega, rfl, by go_num, hst⟩
                case measure => simp [intOf]; omega
      · have hi2' : ¬ (i : Int) < 150 := by omega
        go_wp2_with fail
        go_ret
        exact ⟨rfl, hst.K⟩
    · go_wp2_with fail
      go_ret
      exact ⟨rfl, hst.K⟩
end SendPlays
end Go.Proofs.Ytnbdodgdabgafaa
