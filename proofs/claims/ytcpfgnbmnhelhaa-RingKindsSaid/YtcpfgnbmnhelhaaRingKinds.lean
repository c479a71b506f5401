/- RingKinds answers true: the walk. -/
import Derived.Test.YtcpfgnbmnhelhaaAwake
import Derived.Test.YtcpfgnbmnhelhaaRingU8
import Derived.Test.YtcpfgnbmnhelhaaRingBo
import Derived.Test.YtcpfgnbmnhelhaaRingBy
namespace Go.Proofs.Ytcpfgnbmnhelhaa
namespace RingKinds
open Go.RowKit
set_option linter.unusedVariables false
set_option linter.unusedSimpArgs false

def la (xs : List Int) : List Value := xs.map fun x => .int .u8 x
def lb (xs : List Int) : List Value := xs.map fun x => .bool (decide (128 ≤ x))
def lc (gs : List Nat) : List Value := gs.map fun g => .slice (some ⟨g, 0, none⟩) 1 1

theorem la_len (xs : List Int) : (la xs).length = xs.length := by simp [la]
theorem lb_len (xs : List Int) : (lb xs).length = xs.length := by simp [lb]
theorem lc_len (gs : List Nat) : (lc gs).length = gs.length := by simp [lc]

/-- Three rings that hold the same, each in its kind; the third by blocks gs. -/
structure St (w0 wr : World) (N1 N2 ba sa bb sb bc sc M : Nat) (xs : List Int) (gs : List Nat) : Prop where
  A : Ring 5 73 wr ba sa M (la xs)
  B : Ring 4 76 wr bb sb M (lb xs)
  C : Ring 33 79 wr bc sc M (lc gs)
  len : gs.length = xs.length
  held : ∀ i (h : i < xs.length) (h' : i < gs.length), wr.heap[gs[i]]? = some (.cells #[.int .u8 xs[i]] 5 (0, 0)) ∧ ba < gs[i] ∧ sa < gs[i] ∧ bb < gs[i] ∧ sb < gs[i] ∧ bc < gs[i] ∧ sc < gs[i]
  K : Kept [] w0 wr
  d : w0.heap.size ≤ ba ∧ w0.heap.size ≤ sa ∧ ba < N1 ∧ sa < N1 ∧ N1 ≤ bb ∧ N1 ≤ sb ∧ bb < N2 ∧ sb < N2 ∧ N2 ≤ bc ∧ N2 ≤ sc

variable {w0 wr w' : World} {N1 N2 ba sa bb sb bc sc M : Nat} {xs : List Int} {gs : List Nat}
theorem St.mkHeld {wr w' : World} {S : List Nat} (hk : Kept S wr w')
    (held : ∀ i (h : i < xs.length) (h' : i < gs.length), wr.heap[gs[i]]? = some (.cells #[.int .u8 xs[i]] 5 (0, 0)) ∧ ba < gs[i] ∧ sa < gs[i] ∧ bb < gs[i] ∧ sb < gs[i] ∧ bc < gs[i] ∧ sc < gs[i])
    (hS : ∀ k ∈ S, k = ba ∨ k = sa ∨ k = bb ∨ k = sb ∨ k = bc ∨ k = sc) :
    ∀ i (h : i < xs.length) (h' : i < gs.length), w'.heap[gs[i]]? = some (.cells #[.int .u8 xs[i]] 5 (0, 0)) ∧ ba < gs[i] ∧ sa < gs[i] ∧ bb < gs[i] ∧ sb < gs[i] ∧ bc < gs[i] ∧ sc < gs[i] := by
  intro i h h'
  obtain ⟨h1, h2⟩ := held i h h'
  exact ⟨hk.blk h1 (fun hm => by have := hS _ hm; omega), h2⟩
/-- Something that leaves the three rings alone. -/
theorem St.quiet (h : St w0 wr N1 N2 ba sa bb sb bc sc M xs gs) (hk : Kept [] wr w') : St w0 w' N1 N2 ba sa bb sb bc sc M xs gs :=
  ⟨h.A.kept hk (by simp) (by simp), h.B.kept hk (by simp) (by simp), h.C.kept hk (by simp) (by simp), h.len, St.mkHeld hk h.held (by simp), h.K.trans hk, h.d⟩

set_option maxRecDepth 100000 in
set_option maxHeartbeats 2000000 in
theorem walk (w : World) (m : Int) (hm : 0 ≤ m ∧ m ≤ 255) (a : Option Addr) (n cap : Nat) (ls : List Value) (hs : Sl w (.slice a n cap) ls) (ho : ∀ x ∈ ls, ∃ n : Int, x = .int .u8 n ∧ (Lit.int .u8 n).wf = true) :
    Calls Try.prog 4 #[.int .u8 m, .slice a n cap] w fun e w' => e = .returned (.bool true) ∧ Kept [] w w' := by
  obtain ⟨hn, hcap, hmax⟩ := hs.len
  subst hn
  unfold maxLen at hmax
  obtain ⟨m0, m1⟩ := hm
  obtain ⟨M, hM⟩ : ∃ M : Nat, 1 + m % 9 = (M : Int) := ⟨(1 + m % 9).toNat, by omega⟩
  have hM1 : 1 ≤ M := by omega
  have hM2 : M ≤ 9 := by omega
  have HM := hid hM
  clear hM
  go_enter Try.func4, Try.ntmps4
  go_wp2_with fail
  refine (awake_true w).mono ?_
  rintro e w1 ⟨rfl, hK1⟩
  go_wp2_with fail
  refine (RU8.new_any _ M HM.out w1 (by omega) (by omega)).mono ?_
  rintro e w2 ⟨ba, sa, rfl, hA, hK2, hba, hsa⟩
  go_wp2_with fail
  refine (RBo.new_any _ M HM.out w2 (by omega) (by omega)).mono ?_
  rintro e w3 ⟨bb, sb, rfl, hB, hK3, hbb, hsb⟩
  go_wp2_with fail
  refine (RBy.new_any _ M HM.out w3 (by omega) (by omega)).mono ?_
  rintro e w4 ⟨bc, sc, rfl, hC, hK4, hbc, hsc⟩
  have hst : St w w4 w2.heap.size w3.heap.size ba sa bb sb bc sc M [] [] :=
    ⟨(hA.kept hK3 (by simp) (by simp)).kept hK4 (by simp) (by simp), hB.kept hK4 (by simp) (by simp), hC, rfl, fun i h => by simp at h, ((hK1.trans hK2).trans hK3).trans hK4, by
      have := hK1.size
      have := hA.lt
      have := hB.lt
      omega⟩
  generalize w2.heap.size = N1 at hst
  generalize w3.heap.size = N2 at hst
  clear hA hB hC hK1 hK2 hK3 hK4 hba hsa hbb hsb hbc hsc
  go_wp2_with fail
  go_loopw [12] (fun iv wr => ∃ (i : Nat) (xs : List Int) (gs : List Nat), i ≤ ls.length ∧ iv = .int .i64 (i : Int) ∧ St w wr N1 N2 ba sa bb sb bc sc M xs gs) (fun iv _ => ls.length - (intOf iv).toNat)
  case atStart => exact ⟨0, [], [], by omega, rfl, hst⟩
  case round =>
    clear hst
    obtain ⟨i, xs, gs, h1, rfl, hst⟩ := hrel
    have fin : (¬ i < ls.length ∨ ¬ i < 60) → True := fun _ => trivial
    clear fin
    by_cases hi : i < ls.length
    · by_cases hi60 : i < 60
      · obtain ⟨g, off, rfl, hc⟩ := (hs.old hst.K (by simp)).cell hi
        obtain ⟨x, hx, hwf⟩ := ho _ (List.getElem_mem hi)
        obtain ⟨x0, x1⟩ := bounds_u8 hwf
        have Hx := hid hx
        rw [hx] at hc
        clear hx hwf
        by_cases hmod : x % 3 = 0
        · have hmod' : (x % 3 == 0) = true := by simp [hmod]
          clear hmod
          cases xs with
          | nil =>
            obtain rfl : gs = [] := List.eq_nil_of_length_eq_zero hst.len
            go_wp2_with fail
            refine (RU8.take_none hst.A).mono ?_
            rintro e w5 ⟨rfl, rfl⟩
            go_wp2_with fail
            refine (RBo.take_none hst.B).mono ?_
            rintro e w5 ⟨rfl, rfl⟩
            go_wp2_with fail
            refine (RBy.take_none hst.C).mono ?_
            rintro e w5 ⟨rfl, rfl⟩
            go_wp2_with fail
            go_roundw
            case rel => exact ⟨i + 1, [], [], by omega, by go_num, hst⟩
            case measure => simp [intOf]; omega
          | cons y ys =>
            cases gs with
            | nil => have := hst.len; simp at this
            | cons gg gs =>
              have hd := hst.d
              have hcell := (hst.held 0 (by simp) (by simp)).1
              have hheld : ∀ i (h : i < ys.length) (h' : i < gs.length), wr.heap[gs[i]]? = some (.cells #[.int .u8 ys[i]] 5 (0, 0)) ∧ ba < gs[i] ∧ sa < gs[i] ∧ bb < gs[i] ∧ sb < gs[i] ∧ bc < gs[i] ∧ sc < gs[i] := fun i h h' => by
                have := hst.held (i + 1) (by simp; omega) (by simp; omega)
                simpa using this
              have hgl := (hst.held 0 (by simp) (by simp)).2
              have hlen : gs.length = ys.length := by have := hst.len; simpa using this
              have hK := hst.K
              have hA := hst.A
              have hB := hst.B
              have hC := hst.C
              simp only [List.getElem_cons_zero] at hcell hgl
              clear hst
              go_wp2_with fail
              refine (RU8.take_ok (l := la ys) hA rfl).mono ?_
              rintro e w5 ⟨rfl, hA, hk⟩
              have hB := hB.kept hk (by simp; omega) (by simp; omega)
              have hC := hC.kept hk (by simp; omega) (by simp; omega)
              have hcell := hk.blk hcell (by simp; omega)
              have hheld := St.mkHeld (ba := ba) (sa := sa) (bb := bb) (sb := sb) (bc := bc) (sc := sc) hk hheld (by simp)
              have hK := hK.join hk (fun q hq hlt => by simp at hq; omega)
              clear hk
              go_wp2_with fail
              refine (RBo.take_ok (l := lb ys) hB rfl).mono ?_
              rintro e w6 ⟨rfl, hB, hk⟩
              have hA := hA.kept hk (by simp; omega) (by simp; omega)
              have hC := hC.kept hk (by simp; omega) (by simp; omega)
              have hcell := hk.blk hcell (by simp; omega)
              have hheld := St.mkHeld (ba := ba) (sa := sa) (bb := bb) (sb := sb) (bc := bc) (sc := sc) hk hheld (by simp)
              have hK := hK.join hk (fun q hq hlt => by simp at hq; omega)
              clear hk
              go_wp2_with fail
              refine (RBy.take_ok (l := lc gs) hC rfl).mono ?_
              rintro e w7 ⟨rfl, hC, hk⟩
              have hA := hA.kept hk (by simp; omega) (by simp; omega)
              have hB := hB.kept hk (by simp; omega) (by simp; omega)
              have hcell := hk.blk hcell (by simp; omega)
              have hheld := St.mkHeld (ba := ba) (sa := sa) (bb := bb) (sb := sb) (bc := bc) (sc := sc) hk hheld (by simp)
              have hK := hK.join hk (fun q hq hlt => by simp at hq; omega)
              clear hk
              have hst : St w w7 N1 N2 ba sa bb sb bc sc M ys gs := ⟨hA, hB, hC, hlen, hheld, hK, hd⟩
              have hc0 : w7.cell? ⟨gg, 0, none⟩ = some (.int .u8 y) := by rw [cell_of hcell]; rfl
              clear hA hB hC hlen hheld hK hd hcell hgl
              go_wp2_with fail
              go_roundw
              case rel => exact ⟨i + 1, ys, gs, by omega, by go_num, hst⟩
              case measure => simp [intOf]; omega
        · have hmod' : (x % 3 == 0) = false := by simp [hmod]
          clear hmod
          have hd := hst.d
          have hheld := hst.held
          have hlen := hst.len
          have hK := hst.K
          have hA := hst.A
          have hB := hst.B
          have hC := hst.C
          have hbl : ba < wr.heap.size ∧ sa < wr.heap.size ∧ bb < wr.heap.size ∧ sb < wr.heap.size ∧ bc < wr.heap.size ∧ sc < wr.heap.size := by
            have := hA.lt
            have := hB.lt
            have := hC.lt
            omega
          by_cases hroom : xs.length < M
          · clear hst
            go_wp2_with fail
            refine (RU8.put_ok hA (by simpa [la] using hroom) x).mono ?_
            rintro e w5 ⟨rfl, hA, hk⟩
            have hB := hB.kept hk (by simp; omega) (by simp; omega)
            have hC := hC.kept hk (by simp; omega) (by simp; omega)
            have hheld := St.mkHeld (ba := ba) (sa := sa) (bb := bb) (sb := sb) (bc := bc) (sc := sc) hk hheld (by simp)
            have hK := hK.join hk (fun q hq hlt => by simp at hq; omega)
            have hsz := hk.size
            clear hk hc
            obtain ⟨g', off', he, hc⟩ := (hs.old hK (by simp)).cell hi
            cases he
            rw [Hx.out] at hc
            go_wp2_with fail
            refine (RBo.put_ok hB (by simpa [lb] using hroom) (decide (128 ≤ x))).mono ?_
            rintro e w6 ⟨rfl, hB, hk⟩
            have hA := hA.kept hk (by simp; omega) (by simp; omega)
            have hC := hC.kept hk (by simp; omega) (by simp; omega)
            have hheld := St.mkHeld (ba := ba) (sa := sa) (bb := bb) (sb := sb) (bc := bc) (sc := sc) hk hheld (by simp)
            have hK := hK.join hk (fun q hq hlt => by simp at hq; omega)
            have hsz := Nat.le_trans hsz hk.size
            clear hk hc
            obtain ⟨g', off', he, hc⟩ := (hs.old hK (by simp)).cell hi
            cases he
            rw [Hx.out] at hc
            go_wp2_with fail
            have hal : Kept [] w6 (w6.alloc (.cells #[.int .u8 x] 5)) := (Kept.refl _ _).alloc _
            refine (RBy.put_ok (hC.kept hal (by simp) (by simp)) (by simpa [lc, hlen] using hroom) _ _ _).mono ?_
            rintro e w7 ⟨rfl, hC, hk⟩
            have hk2 := (hal.mono (S' := [bc, sc]) (by simp)).trans hk
            have hA := hA.kept hk2 (by simp; omega) (by simp; omega)
            have hB := hB.kept hk2 (by simp; omega) (by simp; omega)
            have hheld := St.mkHeld (ba := ba) (sa := sa) (bb := bb) (sb := sb) (bc := bc) (sc := sc) hk2 hheld (by simp)
            have hK := hK.join hk2 (fun q hq hlt => by simp at hq; omega)
            have hnew : w7.heap[w6.heap.size]? = some (.cells #[.int .u8 x] 5 (0, 0)) := hk.blk (blk_alloc_new _ _) (by simp; omega)
            have hst : St w w7 N1 N2 ba sa bb sb bc sc M (xs ++ [x]) (gs ++ [w6.heap.size]) :=
              ⟨by simpa [la] using hA, by simpa [lb] using hB, by simpa [lc] using hC, by simp [hlen], fun q h h' => by
                by_cases hq : q < xs.length
                · rw [List.getElem_append_left hq, List.getElem_append_left (by omega)]
                  exact hheld q hq (by omega)
                · simp only [List.length_append, List.length_cons, List.length_nil] at h
                  obtain rfl : q = xs.length := by omega
                  rw [List.getElem_append_right (by omega), List.getElem_append_right (by omega)]
                  simp only [hlen, Nat.sub_self, List.getElem_cons_zero]
                  exact ⟨hnew, by omega⟩, hK, hd⟩
            clear hA hB hC hlen hheld hK hd hk hk2 hnew hal hsz hbl hc
            go_wp2_with fail
            go_roundw
            case rel => exact ⟨i + 1, _, _, by omega, by go_num, hst⟩
            case measure => simp [intOf]; omega
          · have hle := hA.le.1
            have hroom' : xs.length = M := by simp [la] at hle; omega
            clear hst
            go_wp2_with fail
            refine (RU8.put_busy hA (by simpa [la] using hroom') x).mono ?_
            rintro e w5 ⟨rfl, k5, rfl⟩
            go_wp2_with fail
            refine (RBo.put_busy (hB.sim (w' := wr.drewN k5) ⟨rfl, rfl, rfl, rfl⟩) (by simpa [lb] using hroom') (decide (128 ≤ x))).mono ?_
            rintro e w6 ⟨rfl, k6, rfl⟩
            go_wp2_with fail
            have hal : Kept [] wr ((wr.drewN (k5 + k6)).alloc (.cells #[.int .u8 x] 5)) := ((Kept.refl [] wr).drewN' _).alloc _
            refine (RBy.put_busy (hC.kept hal (by simp) (by simp)) (by simpa [lc, hlen] using hroom') _ _ _).mono ?_
            rintro e w7 ⟨rfl, k7, rfl⟩
            have hk2 := hal.drewN' k7
            have hst := St.quiet ⟨hA, hB, hC, hlen, hheld, hK, hd⟩ hk2
            clear hA hB hC hlen hheld hK hd hk2 hal hbl
            go_wp2_with fail
            go_roundw
            case rel => exact ⟨i + 1, _, _, by omega, by go_num, hst⟩
            case measure => simp [intOf]; omega
      · have hi60' : ¬ (i : Int) < 60 := by omega
        go_wp2_with fail
        refine (RU8.len_any hst.A).mono ?_
        rintro e w5 ⟨rfl, rfl⟩
        rw [la_len]
        go_wp2_with fail
        refine (RBo.len_any hst.B).mono ?_
        rintro e w5 ⟨rfl, rfl⟩
        rw [lb_len]
        go_wp2_with fail
        refine (RBo.len_any hst.B).mono ?_
        rintro e w5 ⟨rfl, rfl⟩
        rw [lb_len]
        go_wp2_with fail
        refine (RBy.len_any hst.C).mono ?_
        rintro e w5 ⟨rfl, rfl⟩
        rw [lc_len, hst.len]
        go_wp2_with fail
        go_ret
        exact ⟨rfl, hst.K⟩
    · go_wp2_with fail
      refine (RU8.len_any hst.A).mono ?_
      rintro e w5 ⟨rfl, rfl⟩
      rw [la_len]
      go_wp2_with fail
      refine (RBo.len_any hst.B).mono ?_
      rintro e w5 ⟨rfl, rfl⟩
      rw [lb_len]
      go_wp2_with fail
      refine (RBo.len_any hst.B).mono ?_
      rintro e w5 ⟨rfl, rfl⟩
      rw [lb_len]
      go_wp2_with fail
      refine (RBy.len_any hst.C).mono ?_
      rintro e w5 ⟨rfl, rfl⟩
      rw [lc_len, hst.len]
      go_wp2_with fail
      go_ret
      exact ⟨rfl, hst.K⟩
end RingKinds
end Go.Proofs.Ytcpfgnbmnhelhaa
