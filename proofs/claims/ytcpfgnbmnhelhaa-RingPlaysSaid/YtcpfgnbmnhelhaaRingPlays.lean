/- RingPlays answers true: the walk. -/
import Derived.Test.YtcpfgnbmnhelhaaAwake
import Derived.Test.YtcpfgnbmnhelhaaSame
import Derived.Test.YtcpfgnbmnhelhaaArgs
import Derived.Deep.RegionWith
namespace Go.Proofs.Ytcpfgnbmnhelhaa
namespace RingPlays
open Go.RowKit
set_option linter.unusedVariables false
set_option linter.unusedSimpArgs false

abbrev RG (w : World) (b bs m : Nat) (l : List Value) : Prop := Ring 9 81 w b bs m l

/-- The ring holds l; so does the law's own slice v, which lies elsewhere. -/
structure St (w0 wr : World) (b bs m : Nat) (v : Value) (l : List Value) : Prop where
  R : RG wr b bs m l
  O : OwnL w0.heap.size 9 wr v l
  K : Kept [] w0 wr
  ni : NotIn [b, bs] v
  ss : ∀ x ∈ l, ∃ s : ByteArray, x = .string s
  hb : w0.heap.size ≤ b
  hbs : w0.heap.size ≤ bs

variable {w0 wr w3 w4 w' : World} {b bs m : Nat} {v v' : Value} {l : List Value}
theorem St.still (h : St w0 wr b bs m v l) (hk : Kept [] wr w') : St w0 w' b bs m v l :=
  ⟨h.R.kept hk (by simp) (by simp), h.O.kept hk (not_in_nil _), h.K.trans hk, h.ni, h.ss, h.hb, h.hbs⟩
theorem St.quiet (h : St w0 wr b bs m v l) (k : Nat) : St w0 (wr.drewN k) b bs m v l := h.still (Kept.drewN _ _ k)
theorem St.appended {s : ByteArray} (h : St w0 wr b bs m v l) (hR : RG w3 b bs m (l ++ [.string s])) (hO : OwnL w0.heap.size 9 w3 v l) (hK : Kept [] w0 w3) (h1 : OwnL w0.heap.size 9 w4 v' (l ++ [.string s]))
    (hg : ∀ S, (∀ k, v.ownBlock = some k → k ∈ S) → Kept S w3 w4) (hl : ∀ k, v'.ownBlock = some k → v.ownBlock = some k ∨ w3.heap.size ≤ k) : St w0 w4 b bs m v' (l ++ [.string s]) := by
  have hlt := hR.lt
  have key : ∃ S, Kept S w3 w4 ∧ b ∉ S ∧ bs ∉ S ∧ ∀ k ∈ S, w0.heap.size ≤ k := by
    cases hv : v.ownBlock with
    | none => exact ⟨[], hg [] (fun k hk => by rw [hv] at hk; cases hk), by simp, by simp, by simp⟩
    | some g =>
      have h1 := h.ni g hv
      have h2 := (hO.lt g hv).1
      simp at h1
      exact ⟨[g], hg [g] (fun k hk => by rw [hv] at hk; cases hk; simp), by simp; omega, by simp; omega, fun k hk => by simp at hk; omega⟩
  obtain ⟨S, hS, n1, n2, n3⟩ := key
  refine ⟨hR.kept hS n1 n2, h1, hK.join hS (fun i hi hlt => by have := n3 i hi; omega), fun k hk => ?_, fun x hx => ?_, h.hb, h.hbs⟩
  · rcases hl k hk with h' | h'
    · exact h.ni k h'
    · simp; omega
  · rcases List.mem_append.1 hx with hx | hx
    · exact h.ss x hx
    · simp at hx; exact ⟨s, hx⟩

theorem St.taken {g off n cap : Nat} {x : Value} (h : St w0 wr b bs m (.slice (some ⟨g, off, none⟩) n cap) (x :: l)) (hR : RG w3 b bs m l) (hk : Kept [b, bs] wr w3) :
    (¬ cap = 1 → St w0 w3 b bs m (.slice (some ⟨g, off + 1, none⟩) l.length (cap - 1)) l) ∧ (cap = 1 → St w0 w3 b bs m (.slice (some ⟨g, off, none⟩) l.length (cap - 1)) l) := by
  have hO := h.O.kept hk h.ni
  have hK := h.K.join hk (fun i hi hlt => by have := h.hb; have := h.hbs; simp at hi; omega)
  have hni := h.ni g rfl
  exact ⟨fun hne => ⟨hR, hO.tail.1 hne, hK, fun k hk => by simp [Value.ownBlock] at hk; subst hk; exact hni, fun x hx => h.ss x (by simp [hx]), h.hb, h.hbs⟩,
    fun he => ⟨hR, hO.tail.2 he, hK, fun k hk => by simp [Value.ownBlock] at hk; subst hk; exact hni, fun x hx => h.ss x (by simp [hx]), h.hb, h.hbs⟩⟩

set_option maxRecDepth 100000 in
set_option maxHeartbeats 4000000 in
theorem walk (w : World) (m : Int) (hm : -9223372036854775808 ≤ m ∧ m ≤ 9223372036854775807) (a : Option Addr) (n cap : Nat) (acts : List (Value × Value × Value)) (hs : Sl3 w (.slice a n cap) acts) (ho : ∀ x ∈ acts, IsInt .u8 x.1 ∧ IsStr x.2.1 ∧ IsInt .i64 x.2.2) :
    Calls Try.prog 5 #[.int .i64 m, .slice a n cap] w fun e w' => e = .returned (.bool true) ∧ Kept [] w w' := by
  obtain ⟨hn, hcap, hmax⟩ := hs.len
  subst hn
  clear hm
  by_cases hbad : m < 1 ∨ 256 < m
  · go_enter Try.func5, Try.ntmps5
    go_wp2_with fail
    refine (awake_true w).mono ?_
    rintro e w1 ⟨rfl, hK1⟩
    go_wp2_with fail
    refine (RSt.new_bad m w1 hbad).mono ?_
    rintro e w2 ⟨rfl, rfl⟩
    rcases hbad with hbad | hbad
    · go_wp2_with fail
      go_ret
      exact ⟨rfl, hK1⟩
    · have hbad1 : ¬ m < 1 := by omega
      go_wp2_with fail
      go_ret
      exact ⟨rfl, hK1⟩
  obtain ⟨M, rfl⟩ : ∃ M : Nat, m = (M : Int) := ⟨m.toNat, by omega⟩
  have hM1 : 1 ≤ M := by omega
  have hM2 : M ≤ 256 := by omega
  have hM1' : ¬ (M : Int) < 1 := by omega
  have hM2' : ¬ (256 : Int) < (M : Int) := by omega
  clear hbad
  go_enter Try.func5, Try.ntmps5
  go_wp2_with fail
  refine (awake_true w).mono ?_
  rintro e w1 ⟨rfl, hK1⟩
  go_wp2_with fail
  refine (RSt.new_any _ M rfl w1 hM1 hM2).mono ?_
  rintro e w2 ⟨b, bs, rfl, hR, hK2, hb, hbs⟩
  have hst : St w w2 b bs M (.slice none 0 0) [] := ⟨hR, OwnL.nil _ _ _, hK1.trans hK2, (fun k hk => by cases hk), (fun x hx => by simp at hx), by have := hK1.size; omega, by have := hK1.size; omega⟩
  clear hR hK1 hK2 hb hbs
  go_wp2_with fail
  go_loopw [7, 8] (fun v iv wr => ∃ (i : Nat) (l : List Value), i ≤ acts.length ∧ iv = .int .i64 (i : Int) ∧ St w wr b bs M v l) (fun _ iv _ => acts.length - (intOf iv).toNat)
  case atStart => exact ⟨0, [], by omega, rfl, hst⟩
  case round =>
    clear hst
    obtain ⟨i, l, h1, rfl, hst⟩ := hrel
    by_cases hi : i < acts.length
    · by_cases hi2 : i < 200
      · obtain ⟨g, off, rfl, hc1, hc2, hc3⟩ := (hs.old hst.K (by simp)).cell hi
        obtain ⟨⟨k, hk, wk⟩, ⟨s, hs'⟩, ⟨q, hq, wq⟩⟩ := ho _ (List.getElem_mem hi)
        rw [hk] at hc1
        rw [hs'] at hc2
        rw [hq] at hc3
        obtain ⟨k0, k1⟩ := bounds_u8 wk
        have HQ := hid (bounds_i64 wq)
        clear hk hs' hq wk wq
        obtain ⟨va, vc, hv, hv1, hv2⟩ := hst.O.form
        subst hv
        have h7 : k % 7 = 0 ∨ k % 7 = 1 ∨ k % 7 = 2 ∨ k % 7 = 3 ∨ k % 7 = 4 ∨ k % 7 = 5 ∨ k % 7 = 6 := by omega
        rcases h7 with h7 | h7 | h7 | h7 | h7 | h7 | h7
        · as_aux_lemma =>
            by_cases hroom : l.length < M
            · have hne : ((l.length : Int) == (M : Int)) = false := by simp; omega
              have hal : Kept [] wr (wr.alloc (.cells #[.int .u8 k, .string s, .int .i64 q] 59)) := (Kept.refl _ _).alloc _
              go_wp2_with fail
              refine (RSt.put_ok (hst.R.kept hal (by simp) (by simp)) hroom s).mono ?_
              rintro e w3 ⟨rfl, hR3, hK3⟩
              have hlt := hst.R.lt
              have hcs : w3.cell? ⟨wr.heap.size, 1, none⟩ = some (.string s) := by
                rw [cell_of (hK3.blk (blk_alloc_new _ _) (by simp; omega))]; rfl
              have hB3 : w.heap.size ≤ w3.heap.size := by have := hst.K.size; have := hK3.size; simp at this; omega
              have hO3 := (hst.O.kept hal (not_in_nil _)).kept hK3 hst.ni
              have hK4 := (hst.K.trans hal).join hK3 (fun j hj hlt => by have := hst.hb; have := hst.hbs; simp at hj; omega)
              have hsz3 : b < w3.heap.size ∧ bs < w3.heap.size := hR3.lt
              go_wp2_with (at_builtin; refine wpList_append_L w3 rfl (.tmp 99) (.tmp 102) 57 rfl w.heap.size 9 _ (.string ⟨#[]⟩) 16 Try.underlying57 RSt.info_elem rfl _ l (.string s) rfl hO3 _ rfl rfl rfl (by unfold maxLen; omega) (by omega) hB3 ?_; intro v' w4 hown' hgrow hlie)
              have hst := St.appended hst hR3 hO3 hK4 hown' hgrow hlie
              clear hR3 hO3 hK4 hown' hgrow hlie hK3 hal
              have hlx : (l ++ [Value.string s]).length = l.length + 1 := by simp
              obtain ⟨va', vc', hv', hv1', hv2'⟩ := hst.O.form
              rw [hlx] at hv'
              subst hv'
              have hleM := hst.R.le.1
              go_wp2_with fail
              refine (RSt.len_any hst.R).mono ?_
              rintro e w7 ⟨rfl, rfl⟩
              go_wp2_with fail
              refine (RSt.room_any hst.R).mono ?_
              rintro e w7 ⟨rfl, kd7, rfl⟩
              have hst := hst.quiet kd7
              try rw [World.drewN_drewN] at hst
              go_wp2_with fail
              go_roundw
              case rel => exact ⟨i + 1, _, by omega, by go_num, hst⟩
              case measure => simp [intOf]; omega
            · have hle := hst.R.le.1
              have hfull : l.length = M := by omega
              have hne : ((l.length : Int) == (M : Int)) = true := by simp; omega
              have hal : Kept [] wr (wr.alloc (.cells #[.int .u8 k, .string s, .int .i64 q] 59)) := (Kept.refl _ _).alloc _
              go_wp2_with fail
              refine (RSt.put_busy (hst.R.kept hal (by simp) (by simp)) hfull s).mono ?_
              rintro e w3 ⟨rfl, kd, rfl⟩
              have hst := (hst.still hal).quiet kd
              have HF := hid hfull
              clear hfull
              have hleM := hst.R.le.1
              go_wp2_with fail
              refine (RSt.len_any hst.R).mono ?_
              rintro e w7 ⟨rfl, rfl⟩
              go_wp2_with fail
              refine (RSt.room_any hst.R).mono ?_
              rintro e w7 ⟨rfl, kd7, rfl⟩
              have hst := hst.quiet kd7
              try rw [World.drewN_drewN] at hst
              go_wp2_with fail
              go_roundw
              case rel => exact ⟨i + 1, _, by omega, by go_num, hst⟩
              case measure => simp [intOf]; omega
        · as_aux_lemma =>
            by_cases hroom : l.length < M
            · have hne : ((l.length : Int) == (M : Int)) = false := by simp; omega
              have hal : Kept [] wr (wr.alloc (.cells #[.int .u8 k, .string s, .int .i64 q] 59)) := (Kept.refl _ _).alloc _
              go_wp2_with fail
              refine (RSt.put_ok (hst.R.kept hal (by simp) (by simp)) hroom s).mono ?_
              rintro e w3 ⟨rfl, hR3, hK3⟩
              have hlt := hst.R.lt
              have hcs : w3.cell? ⟨wr.heap.size, 1, none⟩ = some (.string s) := by
                rw [cell_of (hK3.blk (blk_alloc_new _ _) (by simp; omega))]; rfl
              have hB3 : w.heap.size ≤ w3.heap.size := by have := hst.K.size; have := hK3.size; simp at this; omega
              have hO3 := (hst.O.kept hal (not_in_nil _)).kept hK3 hst.ni
              have hK4 := (hst.K.trans hal).join hK3 (fun j hj hlt => by have := hst.hb; have := hst.hbs; simp at hj; omega)
              have hsz3 : b < w3.heap.size ∧ bs < w3.heap.size := hR3.lt
              go_wp2_with (at_builtin; refine wpList_append_L w3 rfl (.tmp 99) (.tmp 102) 57 rfl w.heap.size 9 _ (.string ⟨#[]⟩) 16 Try.underlying57 RSt.info_elem rfl _ l (.string s) rfl hO3 _ rfl rfl rfl (by unfold maxLen; omega) (by omega) hB3 ?_; intro v' w4 hown' hgrow hlie)
              have hst := St.appended hst hR3 hO3 hK4 hown' hgrow hlie
              clear hR3 hO3 hK4 hown' hgrow hlie hK3 hal
              have hlx : (l ++ [Value.string s]).length = l.length + 1 := by simp
              obtain ⟨va', vc', hv', hv1', hv2'⟩ := hst.O.form
              rw [hlx] at hv'
              subst hv'
              have hleM := hst.R.le.1
              go_wp2_with fail
              refine (RSt.len_any hst.R).mono ?_
              rintro e w7 ⟨rfl, rfl⟩
              go_wp2_with fail
              refine (RSt.room_any hst.R).mono ?_
              rintro e w7 ⟨rfl, kd7, rfl⟩
              have hst := hst.quiet kd7
              try rw [World.drewN_drewN] at hst
              go_wp2_with fail
              go_roundw
              case rel => exact ⟨i + 1, _, by omega, by go_num, hst⟩
              case measure => simp [intOf]; omega
            · have hle := hst.R.le.1
              have hfull : l.length = M := by omega
              have hne : ((l.length : Int) == (M : Int)) = true := by simp; omega
              have hal : Kept [] wr (wr.alloc (.cells #[.int .u8 k, .string s, .int .i64 q] 59)) := (Kept.refl _ _).alloc _
              go_wp2_with fail
              refine (RSt.put_busy (hst.R.kept hal (by simp) (by simp)) hfull s).mono ?_
              rintro e w3 ⟨rfl, kd, rfl⟩
              have hst := (hst.still hal).quiet kd
              have HF := hid hfull
              clear hfull
              have hleM := hst.R.le.1
              go_wp2_with fail
              refine (RSt.len_any hst.R).mono ?_
              rintro e w7 ⟨rfl, rfl⟩
              go_wp2_with fail
              refine (RSt.room_any hst.R).mono ?_
              rintro e w7 ⟨rfl, kd7, rfl⟩
              have hst := hst.quiet kd7
              try rw [World.drewN_drewN] at hst
              go_wp2_with fail
              go_roundw
              case rel => exact ⟨i + 1, _, by omega, by go_num, hst⟩
              case measure => simp [intOf]; omega
        · as_aux_lemma =>
            by_cases hroom : l.length < M
            · have hne : ((l.length : Int) == (M : Int)) = false := by simp; omega
              have hal : Kept [] wr (wr.alloc (.cells #[.int .u8 k, .string s, .int .i64 q] 59)) := (Kept.refl _ _).alloc _
              go_wp2_with fail
              refine (RSt.put_ok (hst.R.kept hal (by simp) (by simp)) hroom s).mono ?_
              rintro e w3 ⟨rfl, hR3, hK3⟩
              have hlt := hst.R.lt
              have hcs : w3.cell? ⟨wr.heap.size, 1, none⟩ = some (.string s) := by
                rw [cell_of (hK3.blk (blk_alloc_new _ _) (by simp; omega))]; rfl
              have hB3 : w.heap.size ≤ w3.heap.size := by have := hst.K.size; have := hK3.size; simp at this; omega
              have hO3 := (hst.O.kept hal (not_in_nil _)).kept hK3 hst.ni
              have hK4 := (hst.K.trans hal).join hK3 (fun j hj hlt => by have := hst.hb; have := hst.hbs; simp at hj; omega)
              have hsz3 : b < w3.heap.size ∧ bs < w3.heap.size := hR3.lt
              go_wp2_with (at_builtin; refine wpList_append_L w3 rfl (.tmp 99) (.tmp 102) 57 rfl w.heap.size 9 _ (.string ⟨#[]⟩) 16 Try.underlying57 RSt.info_elem rfl _ l (.string s) rfl hO3 _ rfl rfl rfl (by unfold maxLen; omega) (by omega) hB3 ?_; intro v' w4 hown' hgrow hlie)
              have hst := St.appended hst hR3 hO3 hK4 hown' hgrow hlie
              clear hR3 hO3 hK4 hown' hgrow hlie hK3 hal
              have hlx : (l ++ [Value.string s]).length = l.length + 1 := by simp
              obtain ⟨va', vc', hv', hv1', hv2'⟩ := hst.O.form
              rw [hlx] at hv'
              subst hv'
              have hleM := hst.R.le.1
              go_wp2_with fail
              refine (RSt.len_any hst.R).mono ?_
              rintro e w7 ⟨rfl, rfl⟩
              go_wp2_with fail
              refine (RSt.room_any hst.R).mono ?_
              rintro e w7 ⟨rfl, kd7, rfl⟩
              have hst := hst.quiet kd7
              try rw [World.drewN_drewN] at hst
              go_wp2_with fail
              go_roundw
              case rel => exact ⟨i + 1, _, by omega, by go_num, hst⟩
              case measure => simp [intOf]; omega
            · have hle := hst.R.le.1
              have hfull : l.length = M := by omega
              have hne : ((l.length : Int) == (M : Int)) = true := by simp; omega
              have hal : Kept [] wr (wr.alloc (.cells #[.int .u8 k, .string s, .int .i64 q] 59)) := (Kept.refl _ _).alloc _
              go_wp2_with fail
              refine (RSt.put_busy (hst.R.kept hal (by simp) (by simp)) hfull s).mono ?_
              rintro e w3 ⟨rfl, kd, rfl⟩
              have hst := (hst.still hal).quiet kd
              have HF := hid hfull
              clear hfull
              have hleM := hst.R.le.1
              go_wp2_with fail
              refine (RSt.len_any hst.R).mono ?_
              rintro e w7 ⟨rfl, rfl⟩
              go_wp2_with fail
              refine (RSt.room_any hst.R).mono ?_
              rintro e w7 ⟨rfl, kd7, rfl⟩
              have hst := hst.quiet kd7
              try rw [World.drewN_drewN] at hst
              go_wp2_with fail
              go_roundw
              case rel => exact ⟨i + 1, _, by omega, by go_num, hst⟩
              case measure => simp [intOf]; omega
        · as_aux_lemma =>
            have hal : Kept [] wr (wr.alloc (.cells #[.int .u8 k, .string s, .int .i64 q] 59)) := (Kept.refl _ _).alloc _
            have hst := hst.still hal
            clear hal
            cases l with
            | nil =>
              go_wp2_with fail
              refine (RSt.take_none hst.R).mono ?_
              rintro e w3 ⟨rfl, rfl⟩
              go_wp2_with fail
              go_roundw
              case rel => exact ⟨i + 1, _, by omega, by go_num, hst⟩
              case measure => simp [intOf]; omega
            | cons x l =>
              obtain ⟨s', hx⟩ := hst.ss x (by simp)
              subst hx
              have hone : (((Value.string s' :: l).length : Int) == 0) = false := by simp; omega
              go_wp2_with fail
              refine (RSt.take_ok hst.R rfl).mono ?_
              rintro e w3 ⟨rfl, hR3, hK3⟩
              have hO3 := hst.O.kept hK3 hst.ni
              have hO3 := hst.O.kept hK3 hst.ni
              obtain ⟨g2, off2, rfl, hb2, hc2, hf2, _⟩ := hO3.cellAt (i := 0) (by simp)
              simp only [Nat.add_zero, List.getElem_cons_zero] at hc2
              obtain ⟨ht1, ht2⟩ := hst.taken hR3 hK3
              by_cases hvc : vc = 1
              · subst hvc
                have hst := ht2 rfl
                simp only [Nat.sub_self] at hst
                clear ht1 ht2 hR3 hK3 hO3 hb2 hf2
                have hleM := hst.R.le.1
                go_wp2_with fail
                refine (RSt.len_any hst.R).mono ?_
                rintro e w7 ⟨rfl, rfl⟩
                go_wp2_with fail
                refine (RSt.room_any hst.R).mono ?_
                rintro e w7 ⟨rfl, kd7, rfl⟩
                have hst := hst.quiet kd7
                try rw [World.drewN_drewN] at hst
                go_wp2_with fail
                go_roundw
                case rel => exact ⟨i + 1, _, by omega, by go_num, hst⟩
                case measure => simp [intOf]; omega
              · have hst := ht1 hvc
                clear ht1 ht2 hR3 hK3 hO3 hb2 hf2
                have hleM := hst.R.le.1
                go_wp2_with fail
                refine (RSt.len_any hst.R).mono ?_
                rintro e w7 ⟨rfl, rfl⟩
                go_wp2_with fail
                refine (RSt.room_any hst.R).mono ?_
                rintro e w7 ⟨rfl, kd7, rfl⟩
                have hst := hst.quiet kd7
                try rw [World.drewN_drewN] at hst
                go_wp2_with fail
                go_roundw
                case rel => exact ⟨i + 1, _, by omega, by go_num, hst⟩
                case measure => simp [intOf]; omega
        · as_aux_lemma =>
            have hal : Kept [] wr (wr.alloc (.cells #[.int .u8 k, .string s, .int .i64 q] 59)) := (Kept.refl _ _).alloc _
            have hst := hst.still hal
            clear hal
            cases l with
            | nil =>
              go_wp2_with fail
              refine (RSt.take_none hst.R).mono ?_
              rintro e w3 ⟨rfl, rfl⟩
              go_wp2_with fail
              go_roundw
              case rel => exact ⟨i + 1, _, by omega, by go_num, hst⟩
              case measure => simp [intOf]; omega
            | cons x l =>
              obtain ⟨s', hx⟩ := hst.ss x (by simp)
              subst hx
              have hone : (((Value.string s' :: l).length : Int) == 0) = false := by simp; omega
              go_wp2_with fail
              refine (RSt.take_ok hst.R rfl).mono ?_
              rintro e w3 ⟨rfl, hR3, hK3⟩
              have hO3 := hst.O.kept hK3 hst.ni
              have hO3 := hst.O.kept hK3 hst.ni
              obtain ⟨g2, off2, rfl, hb2, hc2, hf2, _⟩ := hO3.cellAt (i := 0) (by simp)
              simp only [Nat.add_zero, List.getElem_cons_zero] at hc2
              obtain ⟨ht1, ht2⟩ := hst.taken hR3 hK3
              by_cases hvc : vc = 1
              · subst hvc
                have hst := ht2 rfl
                simp only [Nat.sub_self] at hst
                clear ht1 ht2 hR3 hK3 hO3 hb2 hf2
                have hleM := hst.R.le.1
                go_wp2_with fail
                refine (RSt.len_any hst.R).mono ?_
                rintro e w7 ⟨rfl, rfl⟩
                go_wp2_with fail
                refine (RSt.room_any hst.R).mono ?_
                rintro e w7 ⟨rfl, kd7, rfl⟩
                have hst := hst.quiet kd7
                try rw [World.drewN_drewN] at hst
                go_wp2_with fail
                go_roundw
                case rel => exact ⟨i + 1, _, by omega, by go_num, hst⟩
                case measure => simp [intOf]; omega
              · have hst := ht1 hvc
                clear ht1 ht2 hR3 hK3 hO3 hb2 hf2
                have hleM := hst.R.le.1
                go_wp2_with fail
                refine (RSt.len_any hst.R).mono ?_
                rintro e w7 ⟨rfl, rfl⟩
                go_wp2_with fail
                refine (RSt.room_any hst.R).mono ?_
                rintro e w7 ⟨rfl, kd7, rfl⟩
                have hst := hst.quiet kd7
                try rw [World.drewN_drewN] at hst
                go_wp2_with fail
                go_roundw
                case rel => exact ⟨i + 1, _, by omega, by go_num, hst⟩
                case measure => simp [intOf]; omega
        · as_aux_lemma =>
            have hal : Kept [] wr (wr.alloc (.cells #[.int .u8 k, .string s, .int .i64 q] 59)) := (Kept.refl _ _).alloc _
            have hst := hst.still hal
            clear hal
            by_cases hin : 0 ≤ q ∧ q < (l.length : Int)
            · obtain ⟨j, rfl⟩ : ∃ j : Nat, q = (j : Int) := ⟨q.toNat, by omega⟩
              have hj : j < l.length := by omega
              obtain ⟨g2, off2, rfl, hb2, hc2, hf2, _⟩ := hst.O.cellAt hj
              obtain ⟨s', hx⟩ := hst.ss _ (List.getElem_mem hj)
              rw [hx] at hc2
              have Hx := hid hx
              clear hx hin
              go_wp2_with fail
              refine (RSt.at_ok hst.R j hj).mono ?_
              rintro e w3 ⟨rfl, kd, rfl⟩
              rw [Hx.out]
              have hst := hst.quiet kd
              have hleM := hst.R.le.1
              have hleM := hst.R.le.1
              go_wp2_with fail
              refine (RSt.len_any hst.R).mono ?_
              rintro e w7 ⟨rfl, rfl⟩
              go_wp2_with fail
              refine (RSt.room_any hst.R).mono ?_
              rintro e w7 ⟨rfl, kd7, rfl⟩
              have hst := hst.quiet kd7
              try rw [World.drewN_drewN] at hst
              go_wp2_with fail
              go_roundw
              case rel => exact ⟨i + 1, _, by omega, by go_num, hst⟩
              case measure => simp [intOf]; omega
            · have hleM := hst.R.le.1
              have hout : q < 0 ∨ (l.length : Int) ≤ q := by omega
              clear hin
              rcases hout with hout | hout
              · have hout1 : ¬ 0 ≤ q := by omega
                go_wp2_with fail
                refine (RSt.at_out hst.R q (.inl hout)).mono ?_
                rintro e w3 ⟨rfl, rfl⟩
                have hleM := hst.R.le.1
                go_wp2_with fail
                refine (RSt.len_any hst.R).mono ?_
                rintro e w7 ⟨rfl, rfl⟩
                go_wp2_with fail
                refine (RSt.room_any hst.R).mono ?_
                rintro e w7 ⟨rfl, kd7, rfl⟩
                have hst := hst.quiet kd7
                try rw [World.drewN_drewN] at hst
                go_wp2_with fail
                go_roundw
                case rel => exact ⟨i + 1, _, by omega, by go_num, hst⟩
                case measure => simp [intOf]; omega
              · have hout1 : 0 ≤ q := by omega
                have hout2 : ¬ q < (l.length : Int) := by omega
                go_wp2_with fail
                refine (RSt.at_out hst.R q (.inr hout)).mono ?_
                rintro e w3 ⟨rfl, rfl⟩
                have hleM := hst.R.le.1
                go_wp2_with fail
                refine (RSt.len_any hst.R).mono ?_
                rintro e w7 ⟨rfl, rfl⟩
                go_wp2_with fail
                refine (RSt.room_any hst.R).mono ?_
                rintro e w7 ⟨rfl, kd7, rfl⟩
                have hst := hst.quiet kd7
                try rw [World.drewN_drewN] at hst
                go_wp2_with fail
                go_roundw
                case rel => exact ⟨i + 1, _, by omega, by go_num, hst⟩
                case measure => simp [intOf]; omega
        · as_aux_lemma =>
            have hal : Kept [] wr (wr.alloc (.cells #[.int .u8 k, .string s, .int .i64 q] 59)) := (Kept.refl _ _).alloc _
            have hst := hst.still hal
            clear hal
            have hleM := hst.R.le.1
            have hd : q < 0 ∨ (0 ≤ q ∧ q ≤ (l.length : Int)) ∨ (l.length : Int) < q := by omega
            rcases hd with hd | hd | hd
            · have hd1 : q < 0 := hd
              have HS : ∀ w5, Kept [] (wr.alloc (.cells #[.int .u8 k, .string s, .int .i64 q] 59)) w5 → Sl w5 (.slice va 0 vc) (l.take q.toNat) := fun w5 hk => by
                rw [show q.toNat = 0 by omega]; exact (hst.O.sl.kept hk (not_in_nil _)).take (by omega)
              clear hd
              go_wp2_with fail
              go_region_with (first
                | (go_at_call 30; refine (RSt.first_any q _ (by exact hst.R.sim ⟨rfl, rfl, rfl, rfl⟩) hst.ss).mono ?_; rintro e w5 ⟨v5, rfl, hO5, hK5⟩; obtain ⟨va5, n5, vc5, hv5⟩ := hO5.form'; subst hv5)
                | (go_at_call 29; refine (same_true _ _ _ _ _ _ _ _ (by exact hO5.sl) (by exact HS w5 ⟨hK5.os, hK5.tape, hK5.output, hK5.size, hK5.block⟩) (by exact fun x hx => hst.ss x (List.mem_of_mem_take hx))).mono ?_; rintro e w6 ⟨rfl, kd6, rfl⟩))
              all_goals
                have hst := (hst.still (w' := w5) ⟨hK5.os, hK5.tape, hK5.output, hK5.size, hK5.block⟩).quiet kd6
                have hleM := hst.R.le.1
                go_wp2_with fail
                refine (RSt.len_any hst.R).mono ?_
                rintro e w7 ⟨rfl, rfl⟩
                go_wp2_with fail
                refine (RSt.room_any hst.R).mono ?_
                rintro e w7 ⟨rfl, kd7, rfl⟩
                have hst := hst.quiet kd7
                try rw [World.drewN_drewN] at hst
                go_wp2_with fail
                go_roundw
                case rel => exact ⟨i + 1, _, by omega, by go_num, hst⟩
                case measure => simp [intOf]; omega
            · have hd1 : ¬ q < 0 := by omega
              have hd2 : ¬ (l.length : Int) < q := by omega
              have HS : ∀ w5, Kept [] (wr.alloc (.cells #[.int .u8 k, .string s, .int .i64 q] 59)) w5 → Sl w5 (.slice va q.toNat vc) (l.take q.toNat) := fun w5 hk =>
                (hst.O.sl.kept hk (not_in_nil _)).take (by omega)
              clear hd
              go_wp2_with fail
              go_region_with (first
                | (go_at_call 30; refine (RSt.first_any q _ (by exact hst.R.sim ⟨rfl, rfl, rfl, rfl⟩) hst.ss).mono ?_; rintro e w5 ⟨v5, rfl, hO5, hK5⟩; obtain ⟨va5, n5, vc5, hv5⟩ := hO5.form'; subst hv5)
                | (go_at_call 29; refine (same_true _ _ _ _ _ _ _ _ (by exact hO5.sl) (by exact HS w5 ⟨hK5.os, hK5.tape, hK5.output, hK5.size, hK5.block⟩) (by exact fun x hx => hst.ss x (List.mem_of_mem_take hx))).mono ?_; rintro e w6 ⟨rfl, kd6, rfl⟩))
              all_goals
                have hst := (hst.still (w' := w5) ⟨hK5.os, hK5.tape, hK5.output, hK5.size, hK5.block⟩).quiet kd6
                have hleM := hst.R.le.1
                go_wp2_with fail
                refine (RSt.len_any hst.R).mono ?_
                rintro e w7 ⟨rfl, rfl⟩
                go_wp2_with fail
                refine (RSt.room_any hst.R).mono ?_
                rintro e w7 ⟨rfl, kd7, rfl⟩
                have hst := hst.quiet kd7
                try rw [World.drewN_drewN] at hst
                go_wp2_with fail
                go_roundw
                case rel => exact ⟨i + 1, _, by omega, by go_num, hst⟩
                case measure => simp [intOf]; omega
            · have hd1 : ¬ q < 0 := by omega
              have hd2 : (l.length : Int) < q := hd
              have HS : ∀ w5, Kept [] (wr.alloc (.cells #[.int .u8 k, .string s, .int .i64 q] 59)) w5 → Sl w5 (.slice va l.length vc) (l.take q.toNat) := fun w5 hk => by
                rw [List.take_of_length_le (by omega)]; exact hst.O.sl.kept hk (not_in_nil _)
              clear hd
              go_wp2_with fail
              go_region_with (first
                | (go_at_call 30; refine (RSt.first_any q _ (by exact hst.R.sim ⟨rfl, rfl, rfl, rfl⟩) hst.ss).mono ?_; rintro e w5 ⟨v5, rfl, hO5, hK5⟩; obtain ⟨va5, n5, vc5, hv5⟩ := hO5.form'; subst hv5)
                | (go_at_call 29; refine (same_true _ _ _ _ _ _ _ _ (by exact hO5.sl) (by exact HS w5 ⟨hK5.os, hK5.tape, hK5.output, hK5.size, hK5.block⟩) (by exact fun x hx => hst.ss x (List.mem_of_mem_take hx))).mono ?_; rintro e w6 ⟨rfl, kd6, rfl⟩))
              all_goals
                have hst := (hst.still (w' := w5) ⟨hK5.os, hK5.tape, hK5.output, hK5.size, hK5.block⟩).quiet kd6
                have hleM := hst.R.le.1
                go_wp2_with fail
                refine (RSt.len_any hst.R).mono ?_
                rintro e w7 ⟨rfl, rfl⟩
                go_wp2_with fail
                refine (RSt.room_any hst.R).mono ?_
                rintro e w7 ⟨rfl, kd7, rfl⟩
                have hst := hst.quiet kd7
                try rw [World.drewN_drewN] at hst
                go_wp2_with fail
                go_roundw
                case rel => exact ⟨i + 1, _, by omega, by go_num, hst⟩
                case measure => simp [intOf]; omega
      · have hi2' : ¬ (i : Int) < 200 := by omega
        obtain ⟨va, vc, hv, hv1, hv2⟩ := hst.O.form
        subst hv
        go_wp2_with fail
        refine (RSt.first_any 1099511627776 wr hst.R hst.ss).mono ?_
        rintro e w5 ⟨v5, rfl, hO5, hK5⟩
        have hle := hst.R.le
        rw [List.take_of_length_le (by omega)] at hO5
        obtain ⟨va5, n5, vc5, hv5⟩ := hO5.form'
        subst hv5
        have HO := hid hO5.sl
        have HS := hid (hst.O.sl.kept hK5 (not_in_nil _))
        clear hO5
        go_wp2_with fail
        refine (same_true _ _ _ _ _ _ l w5 HO.out HS.out hst.ss).mono ?_
        rintro e w6 ⟨rfl, kd6, rfl⟩
        go_wp2_with fail
        go_ret
        exact ⟨rfl, (hst.K.trans hK5).drewN' kd6⟩
    · skip
      obtain ⟨va, vc, hv, hv1, hv2⟩ := hst.O.form
      subst hv
      go_wp2_with fail
      refine (RSt.first_any 1099511627776 wr hst.R hst.ss).mono ?_
      rintro e w5 ⟨v5, rfl, hO5, hK5⟩
      have hle := hst.R.le
      rw [List.take_of_length_le (by omega)] at hO5
      obtain ⟨va5, n5, vc5, hv5⟩ := hO5.form'
      subst hv5
      have HO := hid hO5.sl
      have HS := hid (hst.O.sl.kept hK5 (not_in_nil _))
      clear hO5
      go_wp2_with fail
      refine (same_true _ _ _ _ _ _ l w5 HO.out HS.out hst.ss).mono ?_
      rintro e w6 ⟨rfl, kd6, rfl⟩
      go_wp2_with fail
      go_ret
      exact ⟨rfl, (hst.K.trans hK5).drewN' kd6⟩
end RingPlays
end Go.Proofs.Ytcpfgnbmnhelhaa
