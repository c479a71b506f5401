/- RecvPlays answers true: the walk. -/
import Derived.Test.YtcmnecfdajnikaaRecvAwake
import Derived.Test.YtcmnecfdajnikaaArgs4
import Derived.Deep.RegionWith
namespace Go.Proofs.Ytcmnecfdajnikaa
namespace RecvPlays
open Go.RowKit
set_option linter.unusedVariables false
set_option linter.unusedSimpArgs false

/-- The receiver holds lr; the law's own slice v, which lies elsewhere, holds l; G is one block more that v is not in. -/
structure St (w0 wr : World) (c b bs m next : Nat) (lr : List Value) (v : Value) (l : List Value) : Prop where
  R : CSt.Recv wr c b bs m next lr
  O : OwnL w0.heap.size 9 wr v l
  K : Kept [] w0 wr
  ni : NotIn [c, b, bs] v
  ss : ∀ x ∈ l, ∃ s : ByteArray, x = .string s
  hc : w0.heap.size ≤ c
  hb : w0.heap.size ≤ b
  hbs : w0.heap.size ≤ bs

variable {w0 wr w3 w4 w' : World} {c b bs m next : Nat} {v v' : Value} {l lr : List Value}
theorem St.still (h : St w0 wr c b bs m next lr v l) (hk : Kept [] wr w') : St w0 w' c b bs m next lr v l :=
  ⟨h.R.kept hk (by simp) (by simp) (by simp), h.O.kept hk (not_in_nil _), h.K.trans hk, h.ni, h.ss, h.hc, h.hb, h.hbs⟩
theorem St.quiet (h : St w0 wr c b bs m next lr v l) (k : Nat) : St w0 (wr.drewN k) c b bs m next lr v l := h.still (Kept.drewN _ _ k)
theorem St.offered {next' : Nat} {lr' : List Value} (h : St w0 wr c b bs m next lr v l) (hR : CSt.Recv w' c b bs m next' lr') (hk : Kept [c, b, bs] wr w') : St w0 w' c b bs m next' lr' v l :=
  ⟨hR, h.O.kept hk h.ni, h.K.join hk (fun i hi hlt => by have := h.hc; have := h.hb; have := h.hbs; simp at hi; omega), h.ni, h.ss, h.hc, h.hb, h.hbs⟩
theorem St.appended {s : ByteArray} {G : Nat} {o : Obj} (h : St w0 wr c b bs m next lr v l) (hA : wr.heap[G]? = some o) (hG : NotIn [G] v) (h1 : OwnL w0.heap.size 9 w4 v' (l ++ [.string s]))
    (hg : ∀ S, (∀ k, v.ownBlock = some k → k ∈ S) → Kept S wr w4) (hl : ∀ k, v'.ownBlock = some k → v.ownBlock = some k ∨ wr.heap.size ≤ k) : St w0 w4 c b bs m next lr v' (l ++ [.string s]) ∧ w4.heap[G]? = some o ∧ NotIn [G] v' := by
  have hlt := h.R.lt
  have hGl : G < wr.heap.size := by
    by_cases hh : G < wr.heap.size
    · exact hh
    · rw [Array.getElem?_eq_none (by omega)] at hA; cases hA
  have key : ∃ S, Kept S wr w4 ∧ c ∉ S ∧ b ∉ S ∧ bs ∉ S ∧ G ∉ S ∧ ∀ k ∈ S, w0.heap.size ≤ k := by
    cases hv : v.ownBlock with
    | none => exact ⟨[], hg [] (fun k hk => by rw [hv] at hk; cases hk), by simp, by simp, by simp, by simp, by simp⟩
    | some g =>
      have h1 := h.ni g hv
      have h2 := (h.O.lt g hv).1
      have h3 := hG g hv
      simp at h1 h3
      exact ⟨[g], hg [g] (fun k hk => by rw [hv] at hk; cases hk; simp), by simp; omega, by simp; omega, by simp; omega, by simp; omega, fun k hk => by simp at hk; omega⟩
  obtain ⟨S, hS, n1, n2, n3, n4, n5⟩ := key
  refine ⟨⟨h.R.kept hS n1 n2 n3, h1, h.K.join hS (fun i hi hlt => by have := n5 i hi; omega), fun k hk => ?_, fun x hx => ?_, h.hc, h.hb, h.hbs⟩, ?_, fun k hk => ?_⟩
  · rcases hl k hk with h' | h'
    · exact h.ni k h'
    · simp; omega
  · rcases List.mem_append.1 hx with hx | hx
    · exact h.ss x hx
    · simp at hx; exact ⟨s, hx⟩
  · rw [hS.block G hGl n4]; exact hA
  · rcases hl k hk with h' | h'
    · exact hG k h'
    · simp; omega

theorem St.taken {g off n cap : Nat} {x : Value} (h : St w0 wr c b bs m next (x :: l) (.slice (some ⟨g, off, none⟩) n cap) (x :: l)) (hR : CSt.Recv w3 c b bs m next l) (hk : Kept [b, bs] wr w3) :
    (¬ cap = 1 → St w0 w3 c b bs m next l (.slice (some ⟨g, off + 1, none⟩) l.length (cap - 1)) l) ∧ (cap = 1 → St w0 w3 c b bs m next l (.slice (some ⟨g, off, none⟩) l.length (cap - 1)) l) := by
  have hk := hk.mono (S' := [c, b, bs]) (fun q hq => by simp at hq ⊢; rcases hq with h | h <;> simp [h])
  have hO := h.O.kept hk h.ni
  have hK := h.K.join hk (fun i hi hlt => by have := h.hc; have := h.hb; have := h.hbs; simp at hi; omega)
  have hni := h.ni g rfl
  exact ⟨fun hne => ⟨hR, hO.tail.1 hne, hK, fun k hk => by simp [Value.ownBlock] at hk; subst hk; exact hni, fun x hx => h.ss x (by simp [hx]), h.hc, h.hb, h.hbs⟩,
    fun he => ⟨hR, hO.tail.2 he, hK, fun k hk => by simp [Value.ownBlock] at hk; subst hk; exact hni, fun x hx => h.ss x (by simp [hx]), h.hc, h.hb, h.hbs⟩⟩

theorem offer_any {w : World} {c b bs m next : Nat} {l : List Value} (h : CSt.Recv w c b bs m next l) (hnb : next ≤ 4611686018427387904) (B : Int) (base : Nat) (hB : B = (base : Int)) (hb : base ≤ next) (a : Option Addr) (n cap : Nat) (xs : List Value) (hs : Sl w (.slice a n cap) xs)
    (ho : ∀ x ∈ xs, ∃ s : ByteArray, x = .string s) (hout : 0 < xs.length → NotIn [c, b, bs] (.slice a n cap)) :
    Calls Try.prog 10 #[.pointer (some ⟨c, 0, none⟩), .int .u64 B, .slice a n cap] w (CSt.OfferPost w c b bs m next (next - base) l xs) := by
  by_cases hp : 0 < xs.length
  · exact CSt.offer_at h hnb B base hB hb a n cap xs hs ho (hout hp)
  · obtain ⟨hn, _, _⟩ := hs.len
    subst hB
    refine (CSt.offer_past h hnb base hb a n cap (by omega) (by omega)).mono ?_
    rintro e w' ⟨rfl, rfl⟩
    exact ⟨0, by omega, rfl, by simpa using h, Kept.refl _ _⟩
theorem info_elem : (Try.prog.info? 9).map (fun i => (i.zero, i.size, i.bytes)) = some (some (.string ⟨#[]⟩), 1, 16) := by kernel_rfl
theorem rel {x : Value} {xs l : List Value} {d q : Nat} (hj : d + q < xs.length) (hx : xs[d + q] = x) : l ++ (xs.drop d).take q ++ [x] = l ++ (xs.drop d).take (q + 1) := CSt.offer_rel hj hx

set_option maxRecDepth 100000 in
set_option maxHeartbeats 4000000 in
theorem walk (w : World) (m : Int) (hm : -9223372036854775808 ≤ m ∧ m ≤ 9223372036854775807) (a : Option Addr) (n cap : Nat) (acts : List Four) (hs : Sl4 w (.slice a n cap) acts) (ho : ∀ x ∈ acts, IsInt .u8 x.1 ∧ IsInt .u64 x.2.1 ∧ IsInt .u8 x.2.2.1 ∧ IsStrs w x.2.2.2) :
    Calls Try.prog 6 #[.int .i64 m, .slice a n cap] w fun e w' => e = .returned (.bool true) ∧ Kept [] w w' := by
  obtain ⟨hn, hcap, hmax⟩ := hs.len
  subst hn
  clear hm
  by_cases hbad : m < 1 ∨ 256 < m
  · go_enter Try.func6, Try.ntmps6
    go_wp2_with fail
    refine (awake_true w).mono ?_
    rintro e w1 ⟨rfl, hK1⟩
    go_wp2_with fail
    refine (CSt.new_bad m w1 hbad).mono ?_
    rintro e w2 ⟨rfl, rfl⟩
    rcases hbad with hbad | hbad
    · go_wp2_with fail
      go_ret
      exact ⟨rfl, hK1⟩
    · have hbad1 : ¬ m < 1 := by omega
      go_wp2_with fail
      go_ret
      exact ⟨rfl, hK1⟩
  obtain ⟨M, rfl⟩ : ∃ M : Nat, m = (M : Int) := ⟨m.toNat, by omega⟩
  have hM1 : 1 ≤ M := by omega
  have hM2 : M ≤ 256 := by omega
  have hM1' : ¬ (M : Int) < 1 := by omega
  have hM2' : ¬ (256 : Int) < (M : Int) := by omega
  clear hbad
  go_enter Try.func6, Try.ntmps6
  go_wp2_with fail
  refine (awake_true w).mono ?_
  rintro e w1 ⟨rfl, hK1⟩
  go_wp2_with fail
  refine (CSt.new_any _ M rfl w1 hM1 hM2).mono ?_
  rintro e w2 ⟨c, b, bs, rfl, hR, hK2, hc, hb, hbs⟩
  have hst : St w w2 c b bs M 0 [] (.slice none 0 0) [] := ⟨hR, OwnL.nil _ _ _, hK1.trans hK2, (fun k hk => by cases hk), (fun x hx => by simp at hx), by have := hK1.size; omega, by have := hK1.size; omega, by have := hK1.size; omega⟩
  clear hR hK1 hK2 hc hb hbs
  go_wp2_with fail
  go_loopw [7, 8, 9] (fun v nv iv wr => ∃ (i N : Nat) (l : List Value), i ≤ acts.length ∧ N ≤ 256 * i ∧ nv = .int .u64 (N : Int) ∧ iv = .int .i64 (i : Int) ∧ St w wr c b bs M N l v l) (fun _ _ iv _ => acts.length - (intOf iv).toNat)
  case atStart => exact ⟨0, 0, [], by omega, by omega, rfl, rfl, hst⟩
  case round =>
    clear hst
    obtain ⟨i, N, l, h1, hN, rfl, rfl, hst⟩ := hrel
    by_cases hi : i < acts.length
    · by_cases hi2 : i < 100
      · obtain ⟨g, off, rfl, hc1, hc2, hc3, hc4⟩ := (hs.old hst.K (by simp)).cell hi
        obtain ⟨⟨k, hk, wk⟩, ⟨B0, hB0, wB⟩, ⟨y, hy, wy⟩, ⟨a2, n2, cap2, xs, hxs, hsx, hox⟩⟩ := ho _ (List.getElem_mem hi)
        rw [hk] at hc1
        rw [hB0] at hc2
        rw [hy] at hc3
        rw [hxs] at hc4
        obtain ⟨hn2, hcap2, hmax2⟩ := hsx.len
        subst hn2
        obtain ⟨k0, k1⟩ := bounds_u8 wk
        obtain ⟨y0, y1⟩ := bounds_u8 wy
        obtain ⟨B0l, B0h⟩ := bounds_u64 wB
        obtain ⟨B, rfl⟩ : ∃ B : Nat, B0 = (B : Int) := ⟨B0.toNat, by omega⟩
        clear hk hB0 hy hxs wk wB wy B0l
        obtain ⟨va, vc, hv, hv1, hv2⟩ := hst.O.form
        subst hv
        have hal : Kept [] wr (wr.alloc (.cells #[.int .u8 k, .int .u64 (B : Int), .int .u8 y, .slice a2 xs.length cap2] 40)) := (Kept.refl _ _).alloc _
        have hA : (wr.alloc (.cells #[.int .u8 k, .int .u64 (B : Int), .int .u8 y, .slice a2 xs.length cap2] 40)).heap[wr.heap.size]? = some (.cells #[.int .u8 k, .int .u64 (B : Int), .int .u8 y, .slice a2 xs.length cap2] 40 (0, 0)) := blk_alloc_new _ _
        have hGv : NotIn [wr.heap.size] (.slice va l.length vc) := fun k hk => by have := (hst.O.lt k hk).2; simp; omega
        have hNB : N ≤ 25600 := by omega
        unfold maxLen at hmax2 hv2
        have h4 : k % 4 = 0 ∨ k % 4 = 1 ∨ k % 4 = 2 ∨ k % 4 = 3 := by omega
        rcases h4 with h4 | h4 | h4 | h4
        · as_aux_lemma =>
            by_cases hb0 : N < B
            · as_aux_lemma =>
                have hNB' : (N : Int) < (B : Int) := by omega
                have hst := hst.still hal
                clear hal hA hGv
                go_wp2_with fail
                refine (CSt.offer_gap hst.R _ (by omega) _ _ _).mono ?_
                rintro e w3 ⟨rfl, rfl⟩
                go_wp2_with fail
                go_roundw
                case rel => exact ⟨i + 1, N, _, by omega, by omega, rfl, by go_num, hst⟩
                case measure => simp [intOf]; omega
            · as_aux_lemma =>
                have hNB' : ¬ (N : Int) < (B : Int) := by omega
                have hNBn : ¬ N < B := by omega
                have hsz := hst.K.size
                have hst3 := hst.still hal
                go_wp2_with fail
                refine (offer_any hst3.R (by omega) (B : Int) B rfl (by omega) _ _ _ xs (hsx.old hst3.K (by simp)) hox (fun hp k hk => by have h5 := hsx.lt hp k hk; have := hst.hc; have := hst.hb; have := hst.hbs; simp; omega)).mono ?_
                rintro e wo ⟨K, hKq, rfl, hR4, hK4⟩
                have hltR := hst.R.lt
                have hA4 := hK4.blk hA (by simp; omega)
                have hle := hst.R.ring.le.1
                have hst := hst3.offered hR4 hK4
                clear hst3 hR4 hK4 hA hal hltR
                obtain ⟨d, hd⟩ : ∃ d : Nat, N = B + d := ⟨N - B, by omega⟩
                have hd' : N - B = d := by omega
                rw [hd'] at hKq hst
                clear hd'
                have HD := hid hd
                have HKQ := hid hKq
                clear hd hKq
                obtain ⟨G, hGe⟩ : ∃ G, G = wr.heap.size := ⟨_, rfl⟩
                rw [← hGe] at hA4 hGv
                have hcA : wo.cell? ⟨G, 3, none⟩ = some (.slice a2 xs.length cap2) := by rw [cell_of hA4]; rfl
                go_wp2_with fail
                rw [← hGe]
                clear hGe hcA
                go_loopw [7, 8, 16, 17] (fun v nv kv jv wi => ∃ j q : Nat, j ≤ xs.length ∧ q ≤ K ∧ (j ≤ d → q = 0) ∧ (d < j → q = min (j - d) K) ∧ nv = .int .u64 ((N : Int) + (q : Int)) ∧ kv = .int .i64 (q : Int) ∧ jv = .int .i64 (j : Int) ∧ St w wi c b bs M (N + K) (l ++ (xs.drop d).take K) v (l ++ (xs.drop d).take q) ∧ wi.heap[G]? = some (.cells #[.int .u8 k, .int .u64 (B : Int), .int .u8 y, .slice a2 xs.length cap2] 40 (0, 0)) ∧ NotIn [G] v) (fun _ _ _ jv _ => xs.length - (intOf jv).toNat)
                case atStart => exact ⟨0, 0, by omega, by omega, fun _ => rfl, by omega, by go_num, rfl, rfl, by simpa using hst, hA4, hGv⟩
                case round =>
                  clear hst hA4 hGv
                  obtain ⟨j, q, hj, hqK, hq1, hq2, rfl, rfl, rfl, hst, hA, hGv⟩ := hrel
                  have hd := HD.out
                  have hKq := HKQ.out
                  obtain ⟨vb, vd, hv, hv3, hv4⟩ := hst.O.form
                  have hlq : (l ++ (xs.drop d).take q).length = l.length + q := by rw [List.length_append, List.length_take, List.length_drop]; omega
                  rw [hlq] at hv hv3
                  subst hv
                  have hcA : wr.cell? ⟨G, 3, none⟩ = some (.slice a2 xs.length cap2) := by rw [cell_of hA]; rfl
                  by_cases hjl : j < xs.length
                  · have hjl' : (j : Int) < (xs.length : Int) := by omega
                    by_cases he : j = d + q
                    · have he' : ((B : Int) + (j : Int) == (N : Int) + (q : Int)) = true := by simp; omega
                      by_cases hroom : l.length + q < M
                      · have hroom' : (l.length : Int) + (q : Int) < (M : Int) := by omega
                        obtain ⟨g2, off2, rfl, hcx⟩ := (hsx.old hst.K (by simp)).cell hjl
                        obtain ⟨s, hs'⟩ := hox _ (List.getElem_mem hjl)
                        rw [hs'] at hcx
                        have hB3 := hst.K.size
                        have hO3 := hst.O
                        have HS := hid hs'
                        have HE := hid he
                        have hbx : d + q < xs.length := by omega
                        have hqk : q < K := by omega
                        have hqd : q + 1 = min (j + 1 - d) K := by omega
                        have hjd : ¬ j + 1 ≤ d := by omega
                        have HQ := hid hqd
                        clear hs' he hd hKq hqd hq1 hq2
                        go_wp2_with (at_builtin; refine wpList_append_L wr rfl (.tmp 136) (.tmp 142) 22 rfl w.heap.size 9 _ (.string ⟨#[]⟩) 16 Try.underlying22 info_elem rfl _ _ (.string s) rfl hO3 _ rfl rfl rfl (by rw [hlq]; unfold maxLen; omega) (by rw [hlq]; omega) hB3 ?_; intro v' w4 hown' hgrow hlie)
                        obtain ⟨hst, hA, hGv⟩ := St.appended hst hA hGv hown' hgrow hlie
                        rw [rel (q := q) hbx (by rw [← HS.out]; congr 1; exact HE.out.symm)] at hst
                        obtain ⟨vb', vd', hv', hv1', hv2'⟩ := hst.O.form
                        subst hv'
                        clear hO3 hown' hgrow hlie hcA
                        go_wp2_with fail
                        go_roundw
                        case rel => exact ⟨j + 1, q + 1, by omega, by omega, fun h => absurd h hjd, fun _ => HQ.out, by go_num, by go_num, by go_num, hst, hA, hGv⟩
                        case measure => simp [intOf]; omega
                      · have hroom' : ¬ (l.length : Int) + (q : Int) < (M : Int) := by omega
                        have hr1 : j + 1 ≤ d → q = 0 := by omega
                        have hr2 : d < j + 1 → q = min (j + 1 - d) K := by omega
                        have HR1 := hid hr1
                        have HR2 := hid hr2
                        clear hr1 hr2 hd hKq hq1 hq2
                        try clear he
                        go_wp2_with fail
                        go_roundw
                        case rel => exact ⟨j + 1, q, by omega, by omega, HR1.out, HR2.out, rfl, rfl, by go_num, hst, hA, hGv⟩
                        case measure => simp [intOf]; omega
                    · have he' : ((B : Int) + (j : Int) == (N : Int) + (q : Int)) = false := by simp; omega
                      have hr1 : j + 1 ≤ d → q = 0 := by omega
                      have hr2 : d < j + 1 → q = min (j + 1 - d) K := by omega
                      have HR1 := hid hr1
                      have HR2 := hid hr2
                      clear hr1 hr2 hd hKq hq1 hq2
                      try clear he
                      go_wp2_with fail
                      go_roundw
                      case rel => exact ⟨j + 1, q, by omega, by omega, HR1.out, HR2.out, rfl, rfl, by go_num, hst, hA, hGv⟩
                      case measure => simp [intOf]; omega
                  · have hjl' : ¬ (j : Int) < (xs.length : Int) := by omega
                    have hqe : q = K := by omega
                    have hqm : l.length + q ≤ M := by omega
                    have hK256 : q ≤ 256 := by omega
                    rw [← hqe] at hst
                    have hL := hid hlq
                    have en : ((N + q : Nat) : Int) = (N : Int) + (q : Int) := by omega
                    have hleM := hst.R.ring.le.1
                    rw [hlq] at hleM
                    subst hqe
                    clear hd hKq hq1 hq2 hqK
                    go_wp2_with fail
                    refine (CSt.next_any hst.R).mono ?_
                    rintro e w7 ⟨rfl, rfl⟩
                    rw [en]
                    go_wp2_with fail
                    refine (CSt.len_any hst.R).mono ?_
                    rintro e w7 ⟨rfl, rfl⟩
                    rw [hlq]
                    go_wp2_with fail
                    refine (CSt.room_any hst.R).mono ?_
                    rintro e w7 ⟨rfl, kd7, rfl⟩
                    rw [hlq]
                    have hst := hst.quiet kd7
                    try rw [World.drewN_drewN] at hst
                    go_wp2_with fail
                    go_roundw
                    case rel => exact ⟨i + 1, N + q, _, by omega, by omega, by go_num, by go_num, hst⟩
                    case measure => simp [intOf]; omega
        · as_aux_lemma =>
            obtain ⟨D, hD⟩ : ∃ D : Nat, y % 8 = (D : Int) := ⟨(y % 8).toNat, by omega⟩
            by_cases hDN : D ≤ N
            · have hDN' : (D : Int) ≤ (N : Int) := by omega
              obtain ⟨E, hE⟩ : ∃ E : Nat, (N : Int) - (D : Int) = (E : Int) := ⟨N - D, by omega⟩
              as_aux_lemma =>
                have hNB' : ¬ (N : Int) < (E : Int) := by omega
                have hNBn : ¬ N < E := by omega
                have hsz := hst.K.size
                have hst3 := hst.still hal
                go_wp2_with fail
                refine (offer_any hst3.R (by omega) (E : Int) E rfl (by omega) _ _ _ xs (hsx.old hst3.K (by simp)) hox (fun hp k hk => by have h5 := hsx.lt hp k hk; have := hst.hc; have := hst.hb; have := hst.hbs; simp; omega)).mono ?_
                rintro e wo ⟨K, hKq, rfl, hR4, hK4⟩
                have hltR := hst.R.lt
                have hA4 := hK4.blk hA (by simp; omega)
                have hle := hst.R.ring.le.1
                have hst := hst3.offered hR4 hK4
                clear hst3 hR4 hK4 hA hal hltR
                obtain ⟨d, hd⟩ : ∃ d : Nat, N = E + d := ⟨N - E, by omega⟩
                have hd' : N - E = d := by omega
                rw [hd'] at hKq hst
                clear hd'
                have HD := hid hd
                have HKQ := hid hKq
                clear hd hKq
                obtain ⟨G, hGe⟩ : ∃ G, G = wr.heap.size := ⟨_, rfl⟩
                rw [← hGe] at hA4 hGv
                have hcA : wo.cell? ⟨G, 3, none⟩ = some (.slice a2 xs.length cap2) := by rw [cell_of hA4]; rfl
                go_wp2_with fail
                rw [← hGe]
                clear hGe hcA
                go_loopw [7, 8, 16, 17] (fun v nv kv jv wi => ∃ j q : Nat, j ≤ xs.length ∧ q ≤ K ∧ (j ≤ d → q = 0) ∧ (d < j → q = min (j - d) K) ∧ nv = .int .u64 ((N : Int) + (q : Int)) ∧ kv = .int .i64 (q : Int) ∧ jv = .int .i64 (j : Int) ∧ St w wi c b bs M (N + K) (l ++ (xs.drop d).take K) v (l ++ (xs.drop d).take q) ∧ wi.heap[G]? = some (.cells #[.int .u8 k, .int .u64 (B : Int), .int .u8 y, .slice a2 xs.length cap2] 40 (0, 0)) ∧ NotIn [G] v) (fun _ _ _ jv _ => xs.length - (intOf jv).toNat)
                case atStart => exact ⟨0, 0, by omega, by omega, fun _ => rfl, by omega, by go_num, rfl, rfl, by simpa using hst, hA4, hGv⟩
                case round =>
                  clear hst hA4 hGv
                  obtain ⟨j, q, hj, hqK, hq1, hq2, rfl, rfl, rfl, hst, hA, hGv⟩ := hrel
                  have hd := HD.out
                  have hKq := HKQ.out
                  obtain ⟨vb, vd, hv, hv3, hv4⟩ := hst.O.form
                  have hlq : (l ++ (xs.drop d).take q).length = l.length + q := by rw [List.length_append, List.length_take, List.length_drop]; omega
                  rw [hlq] at hv hv3
                  subst hv
                  have hcA : wr.cell? ⟨G, 3, none⟩ = some (.slice a2 xs.length cap2) := by rw [cell_of hA]; rfl
                  by_cases hjl : j < xs.length
                  · have hjl' : (j : Int) < (xs.length : Int) := by omega
                    by_cases he : j = d + q
                    · have he' : ((E : Int) + (j : Int) == (N : Int) + (q : Int)) = true := by simp; omega
                      by_cases hroom : l.length + q < M
                      · have hroom' : (l.length : Int) + (q : Int) < (M : Int) := by omega
                        obtain ⟨g2, off2, rfl, hcx⟩ := (hsx.old hst.K (by simp)).cell hjl
                        obtain ⟨s, hs'⟩ := hox _ (List.getElem_mem hjl)
                        rw [hs'] at hcx
                        have hB3 := hst.K.size
                        have hO3 := hst.O
                        have HS := hid hs'
                        have HE := hid he
                        have hbx : d + q < xs.length := by omega
                        have hqk : q < K := by omega
                        have hqd : q + 1 = min (j + 1 - d) K := by omega
                        have hjd : ¬ j + 1 ≤ d := by omega
                        have HQ := hid hqd
                        clear hs' he hd hKq hqd hq1 hq2
                        go_wp2_with (at_builtin; refine wpList_append_L wr rfl (.tmp 136) (.tmp 142) 22 rfl w.heap.size 9 _ (.string ⟨#[]⟩) 16 Try.underlying22 info_elem rfl _ _ (.string s) rfl hO3 _ rfl rfl rfl (by rw [hlq]; unfold maxLen; omega) (by rw [hlq]; omega) hB3 ?_; intro v' w4 hown' hgrow hlie)
                        obtain ⟨hst, hA, hGv⟩ := St.appended hst hA hGv hown' hgrow hlie
                        rw [rel (q := q) hbx (by rw [← HS.out]; congr 1; exact HE.out.symm)] at hst
                        obtain ⟨vb', vd', hv', hv1', hv2'⟩ := hst.O.form
                        subst hv'
                        clear hO3 hown' hgrow hlie hcA
                        go_wp2_with fail
                        go_roundw
                        case rel => exact ⟨j + 1, q + 1, by omega, by omega, fun h => absurd h hjd, fun _ => HQ.out, by go_num, by go_num, by go_num, hst, hA, hGv⟩
                        case measure => simp [intOf]; omega
                      · have hroom' : ¬ (l.length : Int) + (q : Int) < (M : Int) := by omega
                        have hr1 : j + 1 ≤ d → q = 0 := by omega
                        have hr2 : d < j + 1 → q = min (j + 1 - d) K := by omega
                        have HR1 := hid hr1
                        have HR2 := hid hr2
                        clear hr1 hr2 hd hKq hq1 hq2
                        try clear he
                        go_wp2_with fail
                        go_roundw
                        case rel => exact ⟨j + 1, q, by omega, by omega, HR1.out, HR2.out, rfl, rfl, by go_num, hst, hA, hGv⟩
                        case measure => simp [intOf]; omega
                    · have he' : ((E : Int) + (j : Int) == (N : Int) + (q : Int)) = false := by simp; omega
                      have hr1 : j + 1 ≤ d → q = 0 := by omega
                      have hr2 : d < j + 1 → q = min (j + 1 - d) K := by omega
                      have HR1 := hid hr1
                      have HR2 := hid hr2
                      clear hr1 hr2 hd hKq hq1 hq2
                      try clear he
                      go_wp2_with fail
                      go_roundw
                      case rel => exact ⟨j + 1, q, by omega, by omega, HR1.out, HR2.out, rfl, rfl, by go_num, hst, hA, hGv⟩
                      case measure => simp [intOf]; omega
                  · have hjl' : ¬ (j : Int) < (xs.length : Int) := by omega
                    have hqe : q = K := by omega
                    have hqm : l.length + q ≤ M := by omega
                    have hK256 : q ≤ 256 := by omega
                    rw [← hqe] at hst
                    have hL := hid hlq
                    have en : ((N + q : Nat) : Int) = (N : Int) + (q : Int) := by omega
                    have hleM := hst.R.ring.le.1
                    rw [hlq] at hleM
                    subst hqe
                    clear hd hKq hq1 hq2 hqK
                    go_wp2_with fail
                    refine (CSt.next_any hst.R).mono ?_
                    rintro e w7 ⟨rfl, rfl⟩
                    rw [en]
                    go_wp2_with fail
                    refine (CSt.len_any hst.R).mono ?_
                    rintro e w7 ⟨rfl, rfl⟩
                    rw [hlq]
                    go_wp2_with fail
                    refine (CSt.room_any hst.R).mono ?_
                    rintro e w7 ⟨rfl, kd7, rfl⟩
                    rw [hlq]
                    have hst := hst.quiet kd7
                    try rw [World.drewN_drewN] at hst
                    go_wp2_with fail
                    go_roundw
                    case rel => exact ⟨i + 1, N + q, _, by omega, by omega, by go_num, by go_num, hst⟩
                    case measure => simp [intOf]; omega
            · have hDN' : ¬ (D : Int) ≤ (N : Int) := by omega
              by_cases hb0 : N < B
              · as_aux_lemma =>
                  have hNB' : (N : Int) < (B : Int) := by omega
                  have hst := hst.still hal
                  clear hal hA hGv
                  go_wp2_with fail
                  refine (CSt.offer_gap hst.R _ (by omega) _ _ _).mono ?_
                  rintro e w3 ⟨rfl, rfl⟩
                  go_wp2_with fail
                  go_roundw
                  case rel => exact ⟨i + 1, N, _, by omega, by omega, rfl, by go_num, hst⟩
                  case measure => simp [intOf]; omega
              · as_aux_lemma =>
                  have hNB' : ¬ (N : Int) < (B : Int) := by omega
                  have hNBn : ¬ N < B := by omega
                  have hsz := hst.K.size
                  have hst3 := hst.still hal
                  go_wp2_with fail
                  refine (offer_any hst3.R (by omega) (B : Int) B rfl (by omega) _ _ _ xs (hsx.old hst3.K (by simp)) hox (fun hp k hk => by have h5 := hsx.lt hp k hk; have := hst.hc; have := hst.hb; have := hst.hbs; simp; omega)).mono ?_
                  rintro e wo ⟨K, hKq, rfl, hR4, hK4⟩
                  have hltR := hst.R.lt
                  have hA4 := hK4.blk hA (by simp; omega)
                  have hle := hst.R.ring.le.1
                  have hst := hst3.offered hR4 hK4
                  clear hst3 hR4 hK4 hA hal hltR
                  obtain ⟨d, hd⟩ : ∃ d : Nat, N = B + d := ⟨N - B, by omega⟩
                  have hd' : N - B = d := by omega
                  rw [hd'] at hKq hst
                  clear hd'
                  have HD := hid hd
                  have HKQ := hid hKq
                  clear hd hKq
                  obtain ⟨G, hGe⟩ : ∃ G, G = wr.heap.size := ⟨_, rfl⟩
                  rw [← hGe] at hA4 hGv
                  have hcA : wo.cell? ⟨G, 3, none⟩ = some (.slice a2 xs.length cap2) := by rw [cell_of hA4]; rfl
                  go_wp2_with fail
                  rw [← hGe]
                  clear hGe hcA
                  go_loopw [7, 8, 16, 17] (fun v nv kv jv wi => ∃ j q : Nat, j ≤ xs.length ∧ q ≤ K ∧ (j ≤ d → q = 0) ∧ (d < j → q = min (j - d) K) ∧ nv = .int .u64 ((N : Int) + (q : Int)) ∧ kv = .int .i64 (q : Int) ∧ jv = .int .i64 (j : Int) ∧ St w wi c b bs M (N + K) (l ++ (xs.drop d).take K) v (l ++ (xs.drop d).take q) ∧ wi.heap[G]? = some (.cells #[.int .u8 k, .int .u64 (B : Int), .int .u8 y, .slice a2 xs.length cap2] 40 (0, 0)) ∧ NotIn [G] v) (fun _ _ _ jv _ => xs.length - (intOf jv).toNat)
                  case atStart => exact ⟨0, 0, by omega, by omega, fun _ => rfl, by omega, by go_num, rfl, rfl, by simpa using hst, hA4, hGv⟩
                  case round =>
                    clear hst hA4 hGv
                    obtain ⟨j, q, hj, hqK, hq1, hq2, rfl, rfl, rfl, hst, hA, hGv⟩ := hrel
                    have hd := HD.out
                    have hKq := HKQ.out
                    obtain ⟨vb, vd, hv, hv3, hv4⟩ := hst.O.form
                    have hlq : (l ++ (xs.drop d).take q).length = l.length + q := by rw [List.length_append, List.length_take, List.length_drop]; omega
                    rw [hlq] at hv hv3
                    subst hv
                    have hcA : wr.cell? ⟨G, 3, none⟩ = some (.slice a2 xs.length cap2) := by rw [cell_of hA]; rfl
                    by_cases hjl : j < xs.length
                    · have hjl' : (j : Int) < (xs.length : Int) := by omega
                      by_cases he : j = d + q
                      · have he' : ((B : Int) + (j : Int) == (N : Int) + (q : Int)) = true := by simp; omega
                        by_cases hroom : l.length + q < M
                        · have hroom' : (l.length : Int) + (q : Int) < (M : Int) := by omega
                          obtain ⟨g2, off2, rfl, hcx⟩ := (hsx.old hst.K (by simp)).cell hjl
                          obtain ⟨s, hs'⟩ := hox _ (List.getElem_mem hjl)
                          rw [hs'] at hcx
                          have hB3 := hst.K.size
                          have hO3 := hst.O
                          have HS := hid hs'
                          have HE := hid he
                          have hbx : d + q < xs.length := by omega
                          have hqk : q < K := by omega
                          have hqd : q + 1 = min (j + 1 - d) K := by omega
                          have hjd : ¬ j + 1 ≤ d := by omega
                          have HQ := hid hqd
                          clear hs' he hd hKq hqd hq1 hq2
                          go_wp2_with (at_builtin; refine wpList_append_L wr rfl (.tmp 136) (.tmp 142) 22 rfl w.heap.size 9 _ (.string ⟨#[]⟩) 16 Try.underlying22 info_elem rfl _ _ (.string s) rfl hO3 _ rfl rfl rfl (by rw [hlq]; unfold maxLen; omega) (by rw [hlq]; omega) hB3 ?_; intro v' w4 hown' hgrow hlie)
                          obtain ⟨hst, hA, hGv⟩ := St.appended hst hA hGv hown' hgrow hlie
                          rw [rel (q := q) hbx (by rw [← HS.out]; congr 1; exact HE.out.symm)] at hst
                          obtain ⟨vb', vd', hv', hv1', hv2'⟩ := hst.O.form
                          subst hv'
                          clear hO3 hown' hgrow hlie hcA
                          go_wp2_with fail
                          go_roundw
                          case rel => exact ⟨j + 1, q + 1, by omega, by omega, fun h => absurd h hjd, fun _ => HQ.out, by go_num, by go_num, by go_num, hst, hA, hGv⟩
                          case measure => simp [intOf]; omega
                        · have hroom' : ¬ (l.length : Int) + (q : Int) < (M : Int) := by omega
                          have hr1 : j + 1 ≤ d → q = 0 := by omega
                          have hr2 : d < j + 1 → q = min (j + 1 - d) K := by omega
                          have HR1 := hid hr1
                          have HR2 := hid hr2
                          clear hr1 hr2 hd hKq hq1 hq2
                          try clear he
                          go_wp2_with fail
                          go_roundw
                          case rel => exact ⟨j + 1, q, by omega, by omega, HR1.out, HR2.out, rfl, rfl, by go_num, hst, hA, hGv⟩
                          case measure => simp [intOf]; omega
                      · have he' : ((B : Int) + (j : Int) == (N : Int) + (q : Int)) = false := by simp; omega
                        have hr1 : j + 1 ≤ d → q = 0 := by omega
                        have hr2 : d < j + 1 → q = min (j + 1 - d) K := by omega
                        have HR1 := hid hr1
                        have HR2 := hid hr2
                        clear hr1 hr2 hd hKq hq1 hq2
                        try clear he
                        go_wp2_with fail
                        go_roundw
                        case rel => exact ⟨j + 1, q, by omega, by omega, HR1.out, HR2.out, rfl, rfl, by go_num, hst, hA, hGv⟩
                        case measure => simp [intOf]; omega
                    · have hjl' : ¬ (j : Int) < (xs.length : Int) := by omega
                      have hqe : q = K := by omega
                      have hqm : l.length + q ≤ M := by omega
                      have hK256 : q ≤ 256 := by omega
                      rw [← hqe] at hst
                      have hL := hid hlq
                      have en : ((N + q : Nat) : Int) = (N : Int) + (q : Int) := by omega
                      have hleM := hst.R.ring.le.1
                      rw [hlq] at hleM
                      subst hqe
                      clear hd hKq hq1 hq2 hqK
                      go_wp2_with fail
                      refine (CSt.next_any hst.R).mono ?_
                      rintro e w7 ⟨rfl, rfl⟩
                      rw [en]
                      go_wp2_with fail
                      refine (CSt.len_any hst.R).mono ?_
                      rintro e w7 ⟨rfl, rfl⟩
                      rw [hlq]
                      go_wp2_with fail
                      refine (CSt.room_any hst.R).mono ?_
                      rintro e w7 ⟨rfl, kd7, rfl⟩
                      rw [hlq]
                      have hst := hst.quiet kd7
                      try rw [World.drewN_drewN] at hst
                      go_wp2_with fail
                      go_roundw
                      case rel => exact ⟨i + 1, N + q, _, by omega, by omega, by go_num, by go_num, hst⟩
                      case measure => simp [intOf]; omega
        · as_aux_lemma =>
            obtain ⟨D, hD⟩ : ∃ D : Nat, y % 8 = (D : Int) := ⟨(y % 8).toNat, by omega⟩
            by_cases hDN : D ≤ N
            · have hDN' : (D : Int) ≤ (N : Int) := by omega
              obtain ⟨E, hE⟩ : ∃ E : Nat, (N : Int) - (D : Int) = (E : Int) := ⟨N - D, by omega⟩
              as_aux_lemma =>
                have hNB' : ¬ (N : Int) < (E : Int) := by omega
                have hNBn : ¬ N < E := by omega
                have hsz := hst.K.size
                have hst3 := hst.still hal
                go_wp2_with fail
                refine (offer_any hst3.R (by omega) (E : Int) E rfl (by omega) _ _ _ xs (hsx.old hst3.K (by simp)) hox (fun hp k hk => by have h5 := hsx.lt hp k hk; have := hst.hc; have := hst.hb; have := hst.hbs; simp; omega)).mono ?_
                rintro e wo ⟨K, hKq, rfl, hR4, hK4⟩
                have hltR := hst.R.lt
                have hA4 := hK4.blk hA (by simp; omega)
                have hle := hst.R.ring.le.1
                have hst := hst3.offered hR4 hK4
                clear hst3 hR4 hK4 hA hal hltR
                obtain ⟨d, hd⟩ : ∃ d : Nat, N = E + d := ⟨N - E, by omega⟩
                have hd' : N - E = d := by omega
                rw [hd'] at hKq hst
                clear hd'
                have HD := hid hd
                have HKQ := hid hKq
                clear hd hKq
                obtain ⟨G, hGe⟩ : ∃ G, G = wr.heap.size := ⟨_, rfl⟩
                rw [← hGe] at hA4 hGv
                have hcA : wo.cell? ⟨G, 3, none⟩ = some (.slice a2 xs.length cap2) := by rw [cell_of hA4]; rfl
                go_wp2_with fail
                rw [← hGe]
                clear hGe hcA
                go_loopw [7, 8, 16, 17] (fun v nv kv jv wi => ∃ j q : Nat, j ≤ xs.length ∧ q ≤ K ∧ (j ≤ d → q = 0) ∧ (d < j → q = min (j - d) K) ∧ nv = .int .u64 ((N : Int) + (q : Int)) ∧ kv = .int .i64 (q : Int) ∧ jv = .int .i64 (j : Int) ∧ St w wi c b bs M (N + K) (l ++ (xs.drop d).take K) v (l ++ (xs.drop d).take q) ∧ wi.heap[G]? = some (.cells #[.int .u8 k, .int .u64 (B : Int), .int .u8 y, .slice a2 xs.length cap2] 40 (0, 0)) ∧ NotIn [G] v) (fun _ _ _ jv _ => xs.length - (intOf jv).toNat)
                case atStart => exact ⟨0, 0, by omega, by omega, fun _ => rfl, by omega, by go_num, rfl, rfl, by simpa using hst, hA4, hGv⟩
                case round =>
                  clear hst hA4 hGv
                  obtain ⟨j, q, hj, hqK, hq1, hq2, rfl, rfl, rfl, hst, hA, hGv⟩ := hrel
                  have hd := HD.out
                  have hKq := HKQ.out
                  obtain ⟨vb, vd, hv, hv3, hv4⟩ := hst.O.form
                  have hlq : (l ++ (xs.drop d).take q).length = l.length + q := by rw [List.length_append, List.length_take, List.length_drop]; omega
                  rw [hlq] at hv hv3
                  subst hv
                  have hcA : wr.cell? ⟨G, 3, none⟩ = some (.slice a2 xs.length cap2) := by rw [cell_of hA]; rfl
                  by_cases hjl : j < xs.length
                  · have hjl' : (j : Int) < (xs.length : Int) := by omega
                    by_cases he : j = d + q
                    · have he' : ((E : Int) + (j : Int) == (N : Int) + (q : Int)) = true := by simp; omega
                      by_cases hroom : l.length + q < M
                      · have hroom' : (l.length : Int) + (q : Int) < (M : Int) := by omega
                        obtain ⟨g2, off2, rfl, hcx⟩ := (hsx.old hst.K (by simp)).cell hjl
                        obtain ⟨s, hs'⟩ := hox _ (List.getElem_mem hjl)
                        rw [hs'] at hcx
                        have hB3 := hst.K.size
                        have hO3 := hst.O
                        have HS := hid hs'
                        have HE := hid he
                        have hbx : d + q < xs.length := by omega
                        have hqk : q < K := by omega
                        have hqd : q + 1 = min (j + 1 - d) K := by omega
                        have hjd : ¬ j + 1 ≤ d := by omega
                        have HQ := hid hqd
                        clear hs' he hd hKq hqd hq1 hq2
                        go_wp2_with (at_builtin; refine wpList_append_L wr rfl (.tmp 136) (.tmp 142) 22 rfl w.heap.size 9 _ (.string ⟨#[]⟩) 16 Try.underlying22 info_elem rfl _ _ (.string s) rfl hO3 _ rfl rfl rfl (by rw [hlq]; unfold maxLen; omega) (by rw [hlq]; omega) hB3 ?_; intro v' w4 hown' hgrow hlie)
                        obtain ⟨hst, hA, hGv⟩ := St.appended hst hA hGv hown' hgrow hlie
                        rw [rel (q := q) hbx (by rw [← HS.out]; congr 1; exact HE.out.symm)] at hst
                        obtain ⟨vb', vd', hv', hv1', hv2'⟩ := hst.O.form
                        subst hv'
                        clear hO3 hown' hgrow hlie hcA
                        go_wp2_with fail
                        go_roundw
                        case rel => exact ⟨j + 1, q + 1, by omega, by omega, fun h => absurd h hjd, fun _ => HQ.out, by go_num, by go_num, by go_num, hst, hA, hGv⟩
                        case measure => simp [intOf]; omega
                      · have hroom' : ¬ (l.length : Int) + (q : Int) < (M : Int) := by omega
                        have hr1 : j + 1 ≤ d → q = 0 := by omega
                        have hr2 : d < j + 1 → q = min (j + 1 - d) K := by omega
                        have HR1 := hid hr1
                        have HR2 := hid hr2
                        clear hr1 hr2 hd hKq hq1 hq2
                        try clear he
                        go_wp2_with fail
                        go_roundw
                        case rel => exact ⟨j + 1, q, by omega, by omega, HR1.out, HR2.out, rfl, rfl, by go_num, hst, hA, hGv⟩
                        case measure => simp [intOf]; omega
                    · have he' : ((E : Int) + (j : Int) == (N : Int) + (q : Int)) = false := by simp; omega
                      have hr1 : j + 1 ≤ d → q = 0 := by omega
                      have hr2 : d < j + 1 → q = min (j + 1 - d) K := by omega
                      have HR1 := hid hr1
                      have HR2 := hid hr2
                      clear hr1 hr2 hd hKq hq1 hq2
                      try clear he
                      go_wp2_with fail
                      go_roundw
                      case rel => exact ⟨j + 1, q, by omega, by omega, HR1.out, HR2.out, rfl, rfl, by go_num, hst, hA, hGv⟩
                      case measure => simp [intOf]; omega
                  · have hjl' : ¬ (j : Int) < (xs.length : Int) := by omega
                    have hqe : q = K := by omega
                    have hqm : l.length + q ≤ M := by omega
                    have hK256 : q ≤ 256 := by omega
                    rw [← hqe] at hst
                    have hL := hid hlq
                    have en : ((N + q : Nat) : Int) = (N : Int) + (q : Int) := by omega
                    have hleM := hst.R.ring.le.1
                    rw [hlq] at hleM
                    subst hqe
                    clear hd hKq hq1 hq2 hqK
                    go_wp2_with fail
                    refine (CSt.next_any hst.R).mono ?_
                    rintro e w7 ⟨rfl, rfl⟩
                    rw [en]
                    go_wp2_with fail
                    refine (CSt.len_any hst.R).mono ?_
                    rintro e w7 ⟨rfl, rfl⟩
                    rw [hlq]
                    go_wp2_with fail
                    refine (CSt.room_any hst.R).mono ?_
                    rintro e w7 ⟨rfl, kd7, rfl⟩
                    rw [hlq]
                    have hst := hst.quiet kd7
                    try rw [World.drewN_drewN] at hst
                    go_wp2_with fail
                    go_roundw
                    case rel => exact ⟨i + 1, N + q, _, by omega, by omega, by go_num, by go_num, hst⟩
                    case measure => simp [intOf]; omega
            · have hDN' : ¬ (D : Int) ≤ (N : Int) := by omega
              by_cases hb0 : N < B
              · as_aux_lemma =>
                  have hNB' : (N : Int) < (B : Int) := by omega
                  have hst := hst.still hal
                  clear hal hA hGv
                  go_wp2_with fail
                  refine (CSt.offer_gap hst.R _ (by omega) _ _ _).mono ?_
                  rintro e w3 ⟨rfl, rfl⟩
                  go_wp2_with fail
                  go_roundw
                  case rel => exact ⟨i + 1, N, _, by omega, by omega, rfl, by go_num, hst⟩
                  case measure => simp [intOf]; omega
              · as_aux_lemma =>
                  have hNB' : ¬ (N : Int) < (B : Int) := by omega
                  have hNBn : ¬ N < B := by omega
                  have hsz := hst.K.size
                  have hst3 := hst.still hal
                  go_wp2_with fail
                  refine (offer_any hst3.R (by omega) (B : Int) B rfl (by omega) _ _ _ xs (hsx.old hst3.K (by simp)) hox (fun hp k hk => by have h5 := hsx.lt hp k hk; have := hst.hc; have := hst.hb; have := hst.hbs; simp; omega)).mono ?_
                  rintro e wo ⟨K, hKq, rfl, hR4, hK4⟩
                  have hltR := hst.R.lt
                  have hA4 := hK4.blk hA (by simp; omega)
                  have hle := hst.R.ring.le.1
                  have hst := hst3.offered hR4 hK4
                  clear hst3 hR4 hK4 hA hal hltR
                  obtain ⟨d, hd⟩ : ∃ d : Nat, N = B + d := ⟨N - B, by omega⟩
                  have hd' : N - B = d := by omega
                  rw [hd'] at hKq hst
                  clear hd'
                  have HD := hid hd
                  have HKQ := hid hKq
                  clear hd hKq
                  obtain ⟨G, hGe⟩ : ∃ G, G = wr.heap.size := ⟨_, rfl⟩
                  rw [← hGe] at hA4 hGv
                  have hcA : wo.cell? ⟨G, 3, none⟩ = some (.slice a2 xs.length cap2) := by rw [cell_of hA4]; rfl
                  go_wp2_with fail
                  rw [← hGe]
                  clear hGe hcA
                  go_loopw [7, 8, 16, 17] (fun v nv kv jv wi => ∃ j q : Nat, j ≤ xs.length ∧ q ≤ K ∧ (j ≤ d → q = 0) ∧ (d < j → q = min (j - d) K) ∧ nv = .int .u64 ((N : Int) + (q : Int)) ∧ kv = .int .i64 (q : Int) ∧ jv = .int .i64 (j : Int) ∧ St w wi c b bs M (N + K) (l ++ (xs.drop d).take K) v (l ++ (xs.drop d).take q) ∧ wi.heap[G]? = some (.cells #[.int .u8 k, .int .u64 (B : Int), .int .u8 y, .slice a2 xs.length cap2] 40 (0, 0)) ∧ NotIn [G] v) (fun _ _ _ jv _ => xs.length - (intOf jv).toNat)
                  case atStart => exact ⟨0, 0, by omega, by omega, fun _ => rfl, by omega, by go_num, rfl, rfl, by simpa using hst, hA4, hGv⟩
                  case round =>
                    clear hst hA4 hGv
                    obtain ⟨j, q, hj, hqK, hq1, hq2, rfl, rfl, rfl, hst, hA, hGv⟩ := hrel
                    have hd := HD.out
                    have hKq := HKQ.out
                    obtain ⟨vb, vd, hv, hv3, hv4⟩ := hst.O.form
                    have hlq : (l ++ (xs.drop d).take q).length = l.length + q := by rw [List.length_append, List.length_take, List.length_drop]; omega
                    rw [hlq] at hv hv3
                    subst hv
                    have hcA : wr.cell? ⟨G, 3, none⟩ = some (.slice a2 xs.length cap2) := by rw [cell_of hA]; rfl
                    by_cases hjl : j < xs.length
                    · have hjl' : (j : Int) < (xs.length : Int) := by omega
                      by_cases he : j = d + q
                      · have he' : ((B : Int) + (j : Int) == (N : Int) + (q : Int)) = true := by simp; omega
                        by_cases hroom : l.length + q < M
                        · have hroom' : (l.length : Int) + (q : Int) < (M : Int) := by omega
                          obtain ⟨g2, off2, rfl, hcx⟩ := (hsx.old hst.K (by simp)).cell hjl
                          obtain ⟨s, hs'⟩ := hox _ (List.getElem_mem hjl)
                          rw [hs'] at hcx
                          have hB3 := hst.K.size
                          have hO3 := hst.O
                          have HS := hid hs'
                          have HE := hid he
                          have hbx : d + q < xs.length := by omega
                          have hqk : q < K := by omega
                          have hqd : q + 1 = min (j + 1 - d) K := by omega
                          have hjd : ¬ j + 1 ≤ d := by omega
                          have HQ := hid hqd
                          clear hs' he hd hKq hqd hq1 hq2
                          go_wp2_with (at_builtin; refine wpList_append_L wr rfl (.tmp 136) (.tmp 142) 22 rfl w.heap.size 9 _ (.string ⟨#[]⟩) 16 Try.underlying22 info_elem rfl _ _ (.string s) rfl hO3 _ rfl rfl rfl (by rw [hlq]; unfold maxLen; omega) (by rw [hlq]; omega) hB3 ?_; intro v' w4 hown' hgrow hlie)
                          obtain ⟨hst, hA, hGv⟩ := St.appended hst hA hGv hown' hgrow hlie
                          rw [rel (q := q) hbx (by rw [← HS.out]; congr 1; exact HE.out.symm)] at hst
                          obtain ⟨vb', vd', hv', hv1', hv2'⟩ := hst.O.form
                          subst hv'
                          clear hO3 hown' hgrow hlie hcA
                          go_wp2_with fail
                          go_roundw
                          case rel => exact ⟨j + 1, q + 1, by omega, by omega, fun h => absurd h hjd, fun _ => HQ.out, by go_num, by go_num, by go_num, hst, hA, hGv⟩
                          case measure => simp [intOf]; omega
                        · have hroom' : ¬ (l.length : Int) + (q : Int) < (M : Int) := by omega
                          have hr1 : j + 1 ≤ d → q = 0 := by omega
                          have hr2 : d < j + 1 → q = min (j + 1 - d) K := by omega
                          have HR1 := hid hr1
                          have HR2 := hid hr2
                          clear hr1 hr2 hd hKq hq1 hq2
                          try clear he
                          go_wp2_with fail
                          go_roundw
                          case rel => exact ⟨j + 1, q, by omega, by omega, HR1.out, HR2.out, rfl, rfl, by go_num, hst, hA, hGv⟩
                          case measure => simp [intOf]; omega
                      · have he' : ((B : Int) + (j : Int) == (N : Int) + (q : Int)) = false := by simp; omega
                        have hr1 : j + 1 ≤ d → q = 0 := by omega
                        have hr2 : d < j + 1 → q = min (j + 1 - d) K := by omega
                        have HR1 := hid hr1
                        have HR2 := hid hr2
                        clear hr1 hr2 hd hKq hq1 hq2
                        try clear he
                        go_wp2_with fail
                        go_roundw
                        case rel => exact ⟨j + 1, q, by omega, by omega, HR1.out, HR2.out, rfl, rfl, by go_num, hst, hA, hGv⟩
                        case measure => simp [intOf]; omega
                    · have hjl' : ¬ (j : Int) < (xs.length : Int) := by omega
                      have hqe : q = K := by omega
                      have hqm : l.length + q ≤ M := by omega
                      have hK256 : q ≤ 256 := by omega
                      rw [← hqe] at hst
                      have hL := hid hlq
                      have en : ((N + q : Nat) : Int) = (N : Int) + (q : Int) := by omega
                      have hleM := hst.R.ring.le.1
                      rw [hlq] at hleM
                      subst hqe
                      clear hd hKq hq1 hq2 hqK
                      go_wp2_with fail
                      refine (CSt.next_any hst.R).mono ?_
                      rintro e w7 ⟨rfl, rfl⟩
                      rw [en]
                      go_wp2_with fail
                      refine (CSt.len_any hst.R).mono ?_
                      rintro e w7 ⟨rfl, rfl⟩
                      rw [hlq]
                      go_wp2_with fail
                      refine (CSt.room_any hst.R).mono ?_
                      rintro e w7 ⟨rfl, kd7, rfl⟩
                      rw [hlq]
                      have hst := hst.quiet kd7
                      try rw [World.drewN_drewN] at hst
                      go_wp2_with fail
                      go_roundw
                      case rel => exact ⟨i + 1, N + q, _, by omega, by omega, by go_num, by go_num, hst⟩
                      case measure => simp [intOf]; omega
        · as_aux_lemma =>
            have hst := hst.still hal
            clear hal hA hGv
            cases l with
            | nil =>
              go_wp2_with fail
              refine (CSt.take_none hst.R).mono ?_
              rintro e w3 ⟨rfl, rfl⟩
              go_wp2_with fail
              go_roundw
              case rel => exact ⟨i + 1, N, _, by omega, by omega, rfl, by go_num, hst⟩
              case measure => simp [intOf]; omega
            | cons x l =>
              obtain ⟨s', hx⟩ := hst.ss x (by simp)
              subst hx
              have hone : (((Value.string s' :: l).length : Int) == 0) = false := by simp; omega
              go_wp2_with fail
              refine (CSt.take_ok hst.R rfl).mono ?_
              rintro e w3 ⟨rfl, hR3, hK3⟩
              have hO3 := hst.O.kept (hK3.mono (S' := [c, b, bs]) (fun q hq => by simp at hq ⊢; rcases hq with h | h <;> simp [h])) hst.ni
              obtain ⟨g2, off2, rfl, hb2, hc2, hf2, _⟩ := hO3.cellAt (i := 0) (by simp)
              simp only [Nat.add_zero, List.getElem_cons_zero] at hc2
              obtain ⟨ht1, ht2⟩ := hst.taken hR3 hK3
              by_cases hvc : vc = 1
              · subst hvc
                have hst := ht2 rfl
                simp only [Nat.sub_self] at hst
                clear ht1 ht2 hR3 hK3 hO3 hb2 hf2
                go_wp2_with fail
                go_roundw
                case rel => exact ⟨i + 1, N, _, by omega, by omega, rfl, by go_num, hst⟩
                case measure => simp [intOf]; omega
              · have hst := ht1 hvc
                clear ht1 ht2 hR3 hK3 hO3 hb2 hf2
                go_wp2_with fail
                go_roundw
                case rel => exact ⟨i + 1, N, _, by omega, by omega, rfl, by go_num, hst⟩
                case measure => simp [intOf]; omega
      · have hi2' : ¬ (i : Int) < 100 := by omega
        go_wp2_with fail
        go_ret
        exact ⟨rfl, hst.K⟩
    · go_wp2_with fail
      go_ret
      exact ⟨rfl, hst.K⟩
end RecvPlays
end Go.Proofs.Ytcmnecfdajnikaa
