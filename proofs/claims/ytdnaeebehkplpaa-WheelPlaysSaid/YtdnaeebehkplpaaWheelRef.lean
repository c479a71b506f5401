/- The reference's wheel: timers in a list. -/
import Derived.Test.YtdnaeebehkplpaaWheelAwake
namespace Go.Proofs.Ytdnaeebehkplpaa
open Go.RowKit
set_option linter.unusedVariables false
set_option linter.unusedSimpArgs false

def rtRow (t : Tm) : List Value := [.int .i64 t.id, .int .u64 (t.due : Int)]
def rts : List Tm → List Value
  | [] => []
  | t :: l => rtRow t ++ rts l
theorem rts_length : ∀ l, (rts l).length = l.length * 2
  | [] => rfl
  | q :: l => by simp [rts, rts_length l, rtRow]; omega
theorem rts_append : ∀ l l', rts (l ++ l') = rts l ++ rts l'
  | [], l' => rfl
  | q :: l, l' => by simp [rts, rts_append l l']
theorem rts_get : ∀ (l : List Tm) (i : Nat) (h : i < l.length) (j : Nat) (hj : j < 2), (rts l)[i * 2 + j]? = (rtRow l[i])[j]?
  | q :: l, 0, h, j, hj => by simp [rts]; rw [List.getElem?_append_left (by simp [rtRow]; omega)]
  | q :: l, i + 1, h, j, hj => by
    simp only [rts, List.getElem_cons_succ]
    rw [List.getElem?_append_right (by simp [rtRow]; omega), ← rts_get l i (by simpa using h) j hj]
    congr 1
    simp [rtRow]; omega
theorem rtRow_one (t : Tm) : ∀ u ∈ rtRow t, u.oneCell' = true := by simp [rtRow, Value.oneCell']
/-- The reference's wheel at block rb; v, its list, owns the timers L. -/
structure RF (w : World) (rb now : Nat) (v : Value) (L : List Tm) : Prop where
  blk : w.heap[rb]? = some (.cells #[.int .u64 (now : Int), v] 53 (0, 0))
  own : Own 0 73 2 w v L.length (rts L)
  nb : v.ownBlock ≠ some rb
def RB (rb : Nat) (v : Value) (k : Nat) : Prop := k = rb ∨ v.ownBlock = some k
theorem RF.lt {w : World} {rb now : Nat} {v : Value} {L : List Tm} (h : RF w rb now v L) {k : Nat} (hk : RB rb v k) : k < w.heap.size := by
  rcases hk with rfl | hk
  · exact lt_of_blk h.blk
  · exact (h.own.lt k hk).2
theorem RF.kept {S : List Nat} {w w' : World} {rb now : Nat} {v : Value} {L : List Tm} (h : RF w rb now v L) (hk : Kept S w w') (hS : ∀ k ∈ S, ¬ RB rb v k) : RF w' rb now v L :=
  ⟨hk.blk h.blk (fun hm => hS _ hm (.inl rfl)), h.own.kept hk (fun k hk hm => hS _ hm (.inr hk)), h.nb⟩
theorem RF.still {w w' : World} {rb now : Nat} {v : Value} {L : List Tm} (h : RF w rb now v L) (hk : Kept [] w w') : RF w' rb now v L := h.kept hk (by simp)
theorem RF.beside {w w' : World} {rb now : Nat} {v : Value} {L : List Tm} {C C' : Nat → Prop} (h : RF w rb now v L) (hs : Step w w' C C') (hd : ∀ k, RB rb v k → ¬ C k) : RF w' rb now v L := by
  obtain ⟨S, h1, h2, h3⟩ := hs
  refine h.kept h1 fun k hk hb => ?_
  rcases h2 k hk with h4 | h4
  · exact hd k hb h4
  · have := h.lt hb; omega
theorem RF.c0 {w : World} {rb now : Nat} {v : Value} {L : List Tm} (h : RF w rb now v L) : w.cell? ⟨rb, 0, none⟩ = some (.int .u64 (now : Int)) := (cell_of h.blk).trans rfl
theorem RF.c1 {w : World} {rb now : Nat} {v : Value} {L : List Tm} (h : RF w rb now v L) : w.cell? ⟨rb, 1, none⟩ = some v := (cell_of h.blk).trans rfl
theorem RF.f1 {w : World} {rb now : Nat} {v : Value} {L : List Tm} (h : RF w rb now v L) : w.frozen? ⟨rb, 1, none⟩ = false := frozen_of h.blk
theorem RF.f0 {w : World} {rb now : Nat} {v : Value} {L : List Tm} (h : RF w rb now v L) : w.frozen? ⟨rb, 0, none⟩ = false := frozen_of h.blk
/-- A new list is stored, that was made since. -/
theorem RF.store {w w1 : World} {rb now : Nat} {v v' : Value} {L L' : List Tm} (h : RF w rb now v L) (hk : Kept [] w w1) (hO : Own w.heap.size 73 2 w1 v' L'.length (rts L')) : RF (w1.setCell ⟨rb, 1, none⟩ v') rb now v' L' ∧ Step w (w1.setCell ⟨rb, 1, none⟩ v') (RB rb v) (RB rb v') := by
  have hb := hk.blk h.blk (by simp)
  have hset : Kept [rb] w1 (w1.setCell ⟨rb, 1, none⟩ v') := (Kept.refl _ _).setCell (by simp) _
  have hl := lt_of_blk h.blk
  have hne : ∀ k, v'.ownBlock = some k → k ≠ rb := fun k hk' => by have := (hO.lt k hk').1; omega
  refine ⟨⟨blk_set hb v', (hO.kept hset (fun k hk' hm => by simp at hm; exact hne k hk' hm)).base (by omega), fun e => hne _ e rfl⟩, ⟨[rb], (hk.mono (by simp)).trans hset, fun k hm => by simp at hm; exact .inl (.inl hm), fun k hm => ?_⟩⟩
  rcases hm with rfl | hm
  · exact .inl (.inl rfl)
  · exact .inr (hO.lt k hm).1

def RCancel (w : World) (rb now : Nat) (v : Value) (L : List Tm) (id : Int) (hb : Bool) (e : Ending) (w' : World) : Prop :=
  e = .returned (.bool hb) ∧ ∃ v', RF w' rb now v' (less L id) ∧ Step w w' (RB rb v) (RB rb v') ∧ (v' = .slice none 0 0 ∨ ∀ k, v'.ownBlock = some k → w.heap.size ≤ k)
set_option maxRecDepth 100000 in
set_option maxHeartbeats 2000000 in
theorem rcancel {w : World} {rb now : Nat} {v : Value} {L : List Tm} (h : RF w rb now v L) (id : Int) (hl : L.length ≤ 1000000) (hb : Bool) (hhb : hb = decide ((less L id).length < L.length)) :
    Calls Try.prog 20 #[.pointer (some ⟨rb, 0, none⟩), .int .i64 id] w (RCancel w rb now v L id hb) := by
  obtain ⟨a, cap, rfl, hcap, hmax⟩ := h.own.form
  unfold maxLen at hmax
  have c1 := h.c1
  have H := hid h
  have HHB := hid hhb
  have HL := hid hl
  clear h hhb
  go_enter Try.func20, Try.ntmps20
  go_wp2
  clear c1
  go_loopw [5, 6] (fun lv iv wr => ∃ i : Nat, i ≤ L.length ∧ iv = .int .i64 (i : Int) ∧ Kept [] w wr ∧ Own w.heap.size 73 2 wr lv (less (L.take i) id).length (rts (less (L.take i) id)) ∧ (less (L.take i) id).length ≤ i) (fun _ iv _ => L.length - (intOf iv).toNat)
  case atStart => exact ⟨0, by omega, rfl, Kept.refl _ _, Own.nil _ _ _ _, by simp [less]⟩
  case round =>
    obtain ⟨i, hi, rfl, hK, hO, hn⟩ := hrel
    have c1 := (H.out.still hK).c1
    have f1 := (H.out.still hK).f1
    by_cases hlt : i < L.length
    · have hlti : (i : Int) < (L.length : Int) := by omega
      obtain ⟨g, off, rfl, _, hcell⟩ := (H.out.still hK).own.at (by omega : 0 < L.length)
      have cell2 : ∀ jj, jj < 2 → wr.cell? ⟨g, off + i * 2 + jj, none⟩ = (rtRow L[i])[jj]? := by
        intro jj hjj
        have hi2 : i * 2 + jj < (rts L).length := by rw [rts_length]; omega
        rw [show off + i * 2 + jj = off + (i * 2 + jj) by omega, hcell _ hi2, ← List.getElem?_eq_getElem hi2, rts_get L i hlt jj hjj]
      have htk : less (L.take (i + 1)) id = less (L.take i) id ++ (if L[i].id = id then [] else [L[i]]) := by
        unfold less
        rw [List.take_succ_eq_append_getElem hlt, List.filter_append]
        congr 1
        by_cases e : L[i].id = id <;> simp [e]
      obtain ⟨t, ht⟩ : ∃ t, t = L[i] := ⟨_, rfl⟩
      rw [← ht] at cell2 htk
      have e0 := cell2 0 (by omega)
      have e1 := cell2 1 (by omega)
      simp only [rtRow, List.getElem?_cons_zero, List.getElem?_cons_succ, Nat.add_zero] at e0 e1
      have HTK := hid htk
      have HK := hid hK
      have HO := hid hO
      have HN := hid hn
      clear hcell cell2 ht htk hK hO
      by_cases he : t.id = id
      · have hei : (t.id != id) = false := by simp [he]
        have HE := hid he
        clear he
        go_wp2_with fail
        go_roundw
        case rel => exact ⟨i + 1, by omega, by go_num, HK.out, by rw [HTK.out, if_pos HE.out, List.append_nil]; exact HO.out, by rw [HTK.out, if_pos HE.out, List.append_nil]; omega⟩
        case measure => simp [intOf]; omega
      · have hei : (t.id != id) = true := by simp [he]
        have HE := hid he
        have hlen : (less (L.take i) id).length ≤ 1000000 := by omega
        obtain ⟨xa, xc, hxv, hxc, _⟩ := HO.out.form
        subst hxv
        have HB := hid HK.out.size
        clear he hn
        go_wp2_with (at_builtin; refine wpList_append_Own _ rfl (.tmp 27) (.tmp 35) 51 rfl w.heap.size 73 (.agg #[.int .i64 0, .int .u64 0]) 2 16 Try.underlying51 (by kernel_rfl) rfl (by decide) _ (less (L.take i) id).length (rts (less (L.take i) id)) rfl (HO.out.kept (kept_new _) (not_in_nil _)) ⟨wr.heap.size, 0, none⟩ 1 1 (rtRow t) rfl rfl (cells_new wr _ _ _ rfl) (rtRow_one t) (by unfold maxLen; omega) (by omega) (by have := HB.out; simp; omega) ?_; intro v' w4 hown' hgrow hlie)
        have hK4 : Kept [] w w4 := (HK.out.trans (kept_new _)).join ((Kept.refl _ _).grown hgrow (fun k hk _ => mem_own.2 hk) : Kept _ _ w4) (fun k hm hlt => by have := (HO.out.lt k (mem_own.1 hm)).1; omega)
        have HO4 := hid hown'
        have HK4 := hid hK4
        clear hown' hgrow hlie hK4
        go_wp2_with fail
        go_roundw
        case rel => exact ⟨i + 1, by omega, by go_num, HK4.out, by rw [HTK.out, if_neg HE.out, List.length_append, rts_append]; exact HO4.out, by rw [HTK.out, if_neg HE.out, List.length_append]; have := HN.out; simp; omega⟩
        case measure => simp [intOf]; omega
    · obtain rfl : i = L.length := by omega
      rw [List.take_length] at hO
      obtain ⟨xa, xc, hxv, hxc, _⟩ := hO.form
      subst hxv
      have hdb : decide ((less L id).length < L.length) = hb := HHB.out.symm
      have HO := hid hO
      have HK := hid hK
      clear hO hK hn
      go_wp2
      go_ret
      obtain ⟨h1, h2⟩ := H.out.store HK.out HO.out
      exact ⟨rfl, _, h1, h2, .inr (fun k hk => (HO.out.lt k hk).1)⟩
end Go.Proofs.Ytdnaeebehkplpaa
