/- The contracts of the receiver's functions at element type int. -/
import Derived.Test.YtagemhmjpfldoaaRingIn
namespace Go.Proofs.Ytagemhmjpfldoaa
namespace CIn
open Go.RowKit
set_option linter.unusedVariables false
set_option linter.unusedSimpArgs false

/-- At block c lies a receiver over the ring at b: next have come, l wait. -/
structure Recv (w : World) (c b bs m next : Nat) (l : List Value) : Prop where
  blk : w.heap[c]? = some (.cells #[.pointer (some ⟨b, 0, none⟩), .int .u64 (next : Int)] 99 (0, 0))
  ring : Ring 3 106 w b bs m l
  n1 : c ≠ b
  n2 : c ≠ bs
theorem Recv.kept {S : List Nat} {w w' : World} {c b bs m next : Nat} {l : List Value} (h : Recv w c b bs m next l) (hk : Kept S w w') (h0 : c ∉ S) (h1 : b ∉ S) (h2 : bs ∉ S) : Recv w' c b bs m next l :=
  ⟨hk.blk h.blk h0, h.ring.kept hk h1 h2, h.n1, h.n2⟩
theorem Recv.sim {w w' : World} {c b bs m next : Nat} {l : List Value} (h : Recv w c b bs m next l) (hs : Sim w w') : Recv w' c b bs m next l :=
  h.kept (hs.kept (Kept.refl [] w)) (by simp) (by simp) (by simp)
theorem Recv.lt {w : World} {c b bs m next : Nat} {l : List Value} (h : Recv w c b bs m next l) : c < w.heap.size ∧ b < w.heap.size ∧ bs < w.heap.size :=
  ⟨lt_of_blk h.blk, h.ring.lt⟩

def NewPost (w : World) (m : Nat) (e : Ending) (w' : World) : Prop := ∃ c b bs, e = .returned (.tuple #[.pointer (some ⟨c, 0, none⟩), .int .i64 0]) ∧ Recv w' c b bs m 0 [] ∧ Kept [] w w' ∧ w.heap.size ≤ c ∧ w.heap.size ≤ b ∧ w.heap.size ≤ bs
set_option maxHeartbeats 400000 in
theorem new_any (k : Int) (m : Nat) (hk : k = (m : Int)) (w : World) (h1 : 1 ≤ m) (h2 : m ≤ 256) :
    Calls Try.prog 44 #[.int .i64 k] w (NewPost w m) := by
  subst hk
  go_enter Try.func44, Try.ntmps44
  go_wp2_with fail
  refine (RIn.new_any _ m rfl w h1 h2).mono ?_
  rintro e w1 ⟨b, bs, rfl, hR, hK, hb, hbs⟩
  have hlt := hR.lt
  have HR := hid hR
  clear hR
  go_wp2
  go_ret2
  have hal : Kept [] w1 (w1.alloc (.cells #[.pointer (some ⟨b, 0, none⟩), .int .u64 0] 99)) := (Kept.refl _ _).alloc _
  exact ⟨w1.heap.size, b, bs, rfl, ⟨blk_alloc_new _ _, HR.out.kept hal (by simp) (by simp), by omega, by omega⟩, hK.trans hal, hK.size, hb, hbs⟩

set_option maxHeartbeats 400000 in
theorem new_bad (k : Int) (w : World) (h : k < 1 ∨ 256 < k) :
    Calls Try.prog 44 #[.int .i64 k] w fun e w' => e = .returned (.tuple #[.pointer none, .int .i64 1]) ∧ w = w' := by
  have H := hid h
  clear h
  go_enter Try.func44, Try.ntmps44
  go_wp2_with fail
  refine (RIn.new_bad k w H.out).mono ?_
  rintro e w1 ⟨rfl, rfl⟩
  go_wp2
  go_ret2
  exact ⟨rfl, rfl⟩

theorem next_any {w : World} {c b bs m next : Nat} {l : List Value} (h : Recv w c b bs m next l) :
    Calls Try.prog 34 #[.pointer (some ⟨c, 0, none⟩)] w fun e w' => e = .returned (.int .u64 (next : Int)) ∧ w = w' := by
  have h1 : w.cell? ⟨c, 0 + 1, none⟩ = some (.int .u64 (next : Int)) := by rw [cell_of h.blk]; rfl
  clear h
  go_enter Try.func34, Try.ntmps34
  go_wp2
  go_ret
  exact ⟨rfl, rfl⟩
theorem next_nil (w : World) :
    Calls Try.prog 34 #[.pointer none] w fun e w' => e = .returned (.int .u64 0) ∧ w = w' := by
  go_enter Try.func34, Try.ntmps34
  go_wp2
  go_ret
  exact ⟨rfl, rfl⟩
theorem take_ok {w : World} {c b bs m next : Nat} {x : Value} {l : List Value} (h : Recv w c b bs m next (x :: l)) (hx : x.oneCell' = true) :
    Calls Try.prog 48 #[.pointer (some ⟨c, 0, none⟩)] w fun e w' => e = .returned (.tuple #[x, .int .i64 0]) ∧ Recv w' c b bs m next l ∧ Kept [b, bs] w w' := by
  have h0 : w.cell? ⟨c, 0, none⟩ = some (.pointer (some ⟨b, 0, none⟩)) := by rw [cell_of h.blk]; rfl
  have H := hid h
  have HX := hid hx
  clear h hx
  go_enter Try.func48, Try.ntmps48
  go_wp2_with fail
  refine (RIn.take_ok H.out.ring HX.out).mono ?_
  rintro e w1 ⟨rfl, hR, hK⟩
  have hR := hid hR
  go_wp2
  go_ret2
  have hn1 := H.out.n1
  have hn2 := H.out.n2
  exact ⟨rfl, ⟨hK.blk H.out.blk (by simp [hn1, hn2]), hR.out, hn1, hn2⟩, hK⟩
theorem take_none {w : World} {c b bs m next : Nat} (h : Recv w c b bs m next []) :
    Calls Try.prog 48 #[.pointer (some ⟨c, 0, none⟩)] w fun e w' => e = .returned (.tuple #[.int .i64 0, .int .i64 6]) ∧ w = w' := by
  have h0 : w.cell? ⟨c, 0, none⟩ = some (.pointer (some ⟨b, 0, none⟩)) := by rw [cell_of h.blk]; rfl
  have H := hid h
  clear h
  go_enter Try.func48, Try.ntmps48
  go_wp2_with fail
  refine (RIn.take_none H.out.ring).mono ?_
  rintro e w1 ⟨rfl, rfl⟩
  go_wp2
  go_ret2
  exact ⟨rfl, rfl⟩
theorem take_nil (w : World) :
    Calls Try.prog 48 #[.pointer none] w fun e w' => e = .returned (.tuple #[.int .i64 0, .int .i64 6]) ∧ w = w' := by
  go_enter Try.func48, Try.ntmps48
  go_wp2
  go_ret2
  exact ⟨rfl, rfl⟩
theorem offer_nil (base : Int) (a : Option Addr) (n cap : Nat) (w : World) :
    Calls Try.prog 36 #[.pointer none, .int .u64 base, .slice a n cap] w fun e w' => e = .returned (.tuple #[.int .i64 0, .int .i64 6]) ∧ w = w' := by
  go_enter Try.func36, Try.ntmps36
  go_wp2
  go_ret2
  exact ⟨rfl, rfl⟩
set_option maxHeartbeats 400000 in
theorem offer_gap {w : World} {c b bs m next : Nat} {l : List Value} (h : Recv w c b bs m next l) (base : Int) (hb : (next : Int) < base) (a : Option Addr) (n cap : Nat) :
    Calls Try.prog 36 #[.pointer (some ⟨c, 0, none⟩), .int .u64 base, .slice a n cap] w fun e w' => e = .returned (.tuple #[.int .i64 0, .int .i64 1]) ∧ w = w' := by
  have h1 : w.cell? ⟨c, 0 + 1, none⟩ = some (.int .u64 (next : Int)) := by rw [cell_of h.blk]; rfl
  clear h
  go_enter Try.func36, Try.ntmps36
  go_wp2
  go_ret2
  exact ⟨rfl, rfl⟩

set_option maxHeartbeats 400000 in
theorem offer_past {w : World} {c b bs m next : Nat} {l : List Value} (h : Recv w c b bs m next l) (hnb : next ≤ 4611686018427387904) (base : Nat) (hb : base ≤ next) (a : Option Addr) (n cap : Nat) (hn : n ≤ 4611686018427387904) (hp : n ≤ next - base) :
    Calls Try.prog 36 #[.pointer (some ⟨c, 0, none⟩), .int .u64 (base : Int), .slice a n cap] w fun e w' => e = .returned (.tuple #[.int .i64 0, .int .i64 0]) ∧ w = w' := by
  obtain ⟨d, hd⟩ : ∃ d : Nat, next = base + d := ⟨next - base, by omega⟩
  subst hd
  have h1 : w.cell? ⟨c, 0 + 1, none⟩ = some (.int .u64 (((base + d : Nat) : Nat) : Int)) := by rw [cell_of h.blk]; rfl
  clear h
  have ed : (base : Int) + (d : Int) - (base : Int) = (d : Int) := by omega
  have hdl' : ¬ (d : Int) < (n : Int) := by omega
  go_enter Try.func36, Try.ntmps36
  go_wp2
  go_ret2
  exact ⟨rfl, rfl⟩
def OfferPost (w : World) (c b bs m next d : Nat) (l xs : List Value) (e : Ending) (w' : World) : Prop :=
  ∃ k : Nat, k = min (xs.length - d) (m - l.length) ∧ e = .returned (.tuple #[.int .i64 (k : Int), .int .i64 0]) ∧ Recv w' c b bs m (next + k) (l ++ (xs.drop d).take k) ∧ Kept [c, b, bs] w w'
theorem offer_rel {x : Value} {xs l : List Value} {d j : Nat} (hj : d + j < xs.length) (hx : xs[d + j] = x) : l ++ (xs.drop d).take j ++ [x] = l ++ (xs.drop d).take (j + 1) := by
  rw [List.append_assoc, ← hx]
  congr 1
  rw [List.take_succ_eq_append_getElem (by simp; omega)]
  simp
set_option maxHeartbeats 1000000 in
theorem offer_ok {w : World} {c b bs m next : Nat} {l : List Value} (h : Recv w c b bs m next l) (hnb : next ≤ 4611686018427387904) (base : Nat) (hb : base ≤ next) (a : Option Addr) (n cap : Nat) (xs : List Value) (hs : Sl w (.slice a n cap) xs)
    (ho : ∀ x ∈ xs, ∃ s : Int, x = .int .i64 s) (hout : NotIn [c, b, bs] (.slice a n cap)) :
    Calls Try.prog 36 #[.pointer (some ⟨c, 0, none⟩), .int .u64 (base : Int), .slice a n cap] w (OfferPost w c b bs m next (next - base) l xs) := by
  obtain ⟨hn, hcap, hmax⟩ := hs.len
  subst hn
  unfold maxLen at hmax
  obtain ⟨d, hd⟩ : ∃ d : Nat, next = base + d := ⟨next - base, by omega⟩
  have e1 : next - base = d := by omega
  rw [e1]
  clear e1
  subst hd
  have h1 : w.cell? ⟨c, 0 + 1, none⟩ = some (.int .u64 (((base + d : Nat) : Nat) : Int)) := by rw [cell_of h.blk]; rfl
  have hle := h.ring.le
  by_cases hdl : d < xs.length
  · have ed : (base : Int) + (d : Int) - (base : Int) = (d : Int) := by omega
    have hdl' : (d : Int) < (xs.length : Int) := by omega
    have hcd : ¬ cap = d := by omega
    have hdl3 : ¬ xs.length ≤ d := by omega
    have hdl4 : ¬ (base : Int) + (d : Int) < (base : Int) := by omega
    have hlt := h.lt
    have HH := hid h
    have hn1 := h.n1
    have hn2 := h.n2
    have hn3 : b ≠ bs := by obtain ⟨_, _, _, _, h3, _⟩ := h.ring; exact h3
    clear h
    obtain ⟨g, off, rfl, hc0⟩ := hs.cell (i := d) hdl
    have hgo := hout g rfl
    simp at hgo
    clear hc0
    go_enter Try.func36, Try.ntmps36
    go_wp2
    go_loopw [8, 40] (fun nv jv wr => ∃ j : Nat, d + j ≤ xs.length ∧ l.length + j ≤ m ∧ nv = .int .i64 (j : Int) ∧ jv = .int .i64 (j : Int) ∧ Recv wr c b bs m (base + d + j) (l ++ (xs.drop d).take j) ∧ Kept [c, b, bs] w wr) (fun _ jv _ => xs.length - d - (intOf jv).toNat)
    case atStart => exact ⟨0, by omega, by omega, rfl, rfl, by simpa using HH.out, Kept.refl _ _⟩
    case round =>
      obtain ⟨j, h2, h3, rfl, rfl, hR, hK⟩ := hrel
      have hlen : (l ++ (xs.drop d).take j).length = l.length + j := by simp; omega
      by_cases hj : d + j < xs.length
      · have hj' : (j : Int) < (xs.length : Int) - (d : Int) := by omega
        have hj'' : j < xs.length - d := by omega
        obtain ⟨g', off', he, hc⟩ := (hs.kept hK hout).cell hj
        cases he
        obtain ⟨s, hx⟩ := ho _ (List.getElem_mem hj)
        rw [hx, ← Nat.add_assoc] at hc
        have HX := hid hx
        clear hx
        have c0 : wr.cell? ⟨c, 0, none⟩ = some (.pointer (some ⟨b, 0, none⟩)) := by rw [cell_of hR.blk]; rfl
        by_cases hroom : l.length + j < m
        · go_wp2_with fail
          refine (RIn.put_ok hR.ring (by rw [hlen]; exact hroom) s).mono ?_
          rintro e w3 ⟨rfl, hR3, hK3⟩
          rw [offer_rel hj HX.out] at hR3
          have hb3 := hK3.blk hR.blk (by simp [hn1, hn2])
          have hK4 := hK.trans (hK3.mono (S' := [c, b, bs]) (fun q hq => by simp at hq ⊢; rcases hq with h | h <;> simp [h]))
          have c1 : w3.cell? ⟨c, 0 + 1, none⟩ = some (.int .u64 ((base + d + j : Nat) : Int)) := by rw [cell_of hb3]; rfl
          have f1 : w3.frozen? ⟨c, 0 + 1, none⟩ = false := frozen_of hb3
          have hR4 : Recv (w3.setCell ⟨c, 1, none⟩ (.int .u64 ((base + d + (j + 1) : Nat) : Int))) c b bs m (base + d + (j + 1)) (l ++ (xs.drop d).take (j + 1)) := by
            have hk : Kept [c] w3 (w3.setCell ⟨c, 1, none⟩ (.int .u64 ((base + d + (j + 1) : Nat) : Int))) := (Kept.refl _ _).setCell (by simp) _
            exact ⟨blk_set hb3 _, hR3.kept hk (by simp; omega) (by simp; omega), hn1, hn2⟩
          have hK5 : Kept [c, b, bs] w (w3.setCell ⟨c, 1, none⟩ (.int .u64 ((base + d + (j + 1) : Nat) : Int))) := hK4.setCell (by simp) _
          have HR4 := hid hR4
          have HK5 := hid hK5
          have en : ((base + d + (j + 1) : Nat) : Int) = (base : Int) + d + j + 1 := by omega
          rw [en] at HR4 HK5
          clear hR3 hb3 hK4 hR4 hK5 en hR hK hK3 hc c0 hlen
          go_wp2
          go_roundw
          case rel => exact ⟨j + 1, by omega, by omega, by go_num, by go_num, HR4.out, HK5.out⟩
          case measure => simp [intOf]; omega
        · have hfull : (l ++ (xs.drop d).take j).length = m := by rw [hlen]; omega
          have HR := hid hR
          clear hR hlen
          go_wp2_with fail
          refine (RIn.put_busy HR.out.ring hfull s).mono ?_
          rintro e w3 ⟨rfl, kd, rfl⟩
          clear hfull hc c0
          go_wp2
          go_ret2
          exact ⟨j, by omega, rfl, HR.out.sim ⟨rfl, rfl, rfl, rfl⟩, hK.drewN' kd⟩
      · have hj' : ¬ (j : Int) < (xs.length : Int) - (d : Int) := by omega
        have hj'' : ¬ j < xs.length - d := by omega
        have HR := hid hR
        clear hR hlen
        go_wp2
        go_ret2
        exact ⟨j, by omega, rfl, HR.out, hK⟩
  · have HR := hid h
    clear h
    have ed : (base : Int) + (d : Int) - (base : Int) = (d : Int) := by omega
    have hdl' : ¬ (d : Int) < (xs.length : Int) := by omega
    go_enter Try.func36, Try.ntmps36
    go_wp2
    go_ret2
    exact ⟨0, by omega, rfl, by simpa using HR.out, Kept.refl _ _⟩
theorem offer_at {w : World} {c b bs m next : Nat} {l : List Value} (h : Recv w c b bs m next l) (hnb : next ≤ 4611686018427387904) (B : Int) (base : Nat) (hB : B = (base : Int)) (hb : base ≤ next) (a : Option Addr) (n cap : Nat) (xs : List Value) (hs : Sl w (.slice a n cap) xs)
    (ho : ∀ x ∈ xs, ∃ s : Int, x = .int .i64 s) (hout : NotIn [c, b, bs] (.slice a n cap)) :
    Calls Try.prog 36 #[.pointer (some ⟨c, 0, none⟩), .int .u64 B, .slice a n cap] w (OfferPost w c b bs m next (next - base) l xs) := by
  subst hB
  exact offer_ok h hnb base hb a n cap xs hs ho hout
end CIn
end Go.Proofs.Ytagemhmjpfldoaa
