/- SendAll answers true: the walk. -/
import Derived.Test.YtnbdodgdabgafaaSendAwake
namespace Go.Proofs.Ytnbdodgdabgafaa
namespace SendAll
open Go.RowKit
set_option linter.unusedVariables false
set_option linter.unusedSimpArgs false

def seg (xs : List Value) (G P : Nat) : List Value := (xs.drop G).take (P - G)
theorem seg_len {xs : List Value} {G P : Nat} (h : P ≤ xs.length) : (seg xs G P).length = P - G := by simp [seg]; omega
theorem seg_snoc {xs : List Value} {G P : Nat} (h : P < xs.length) (hG : G ≤ P) : seg xs G P ++ [xs[P]] = seg xs G (P + 1) := by
  unfold seg
  rw [show P + 1 - G = (P - G) + 1 by omega, List.take_succ_eq_append_getElem (by simp; omega)]
  simp [show G + (P - G) = P by omega]
theorem seg_got {xs : List Value} {G P W k : Nat} (h : P ≤ xs.length) (hG : G ≤ P) (hk : k = min (P - G) W) : xs.take G ++ (seg xs G P).take W = xs.take (G + k) := by
  unfold seg
  rw [List.take_take, Nat.min_comm, ← hk, List.take_add]
theorem seg_drop {xs : List Value} {G P k : Nat} : (seg xs G P).drop k = seg xs (G + k) P := by
  unfold seg
  rw [List.drop_take, List.drop_drop, show P - G - k = P - (G + k) by omega]
theorem seg_mem {xs : List Value} {G P : Nat} {x : Value} (h : x ∈ seg xs G P) : x ∈ xs := List.mem_of_mem_drop (List.mem_of_mem_take h)
theorem strs_one {ys : List Value} (h : ∀ x ∈ ys, ∃ s : ByteArray, x = .string s) : ∀ u ∈ ys, u.oneCell' = true := fun u hu => by
  obtain ⟨s, rfl⟩ := h u hu; rfl

/-- append(s, y...), y a slice that reads as ys. -/
theorem wpList_append_LL {P : Program} (w : World) {ops : Array Oper} {rest : List Oper} {o : Oper} {a : Act} {Q : Exit → Act → World → Prop} (hgd : o.guard = none) (s y : Operand) (t : TypeId)
    (ho : o.op = .call { callee := .builtin .append, args := #[s, y], argTypes := #[t, t] })
    (base : Nat) (e : TypeId) (z : Value) (bytes : Nat) (ht : P.underlying t = some (.slice e)) (hinfo : (P.info? e).map (fun i => (i.zero, i.size, i.bytes)) = some (some z, 1, bytes))
    (hzs : z.cells.size = 1) (v : Value) (xs ys : List Value) (hs : a.eval s = v) (hown : OwnL base e w v xs) (g off m c : Nat) (hx : a.eval y = .slice (some ⟨g, off, none⟩) m c) (hsl : Sl w (.slice (some ⟨g, off, none⟩) m c) ys) (hm : 0 < m)
    (h1 : ∀ u ∈ ys, u.oneCell' = true) (h63 : xs.length + m ≤ maxLen) (hbytes : (xs.length + m) * bytes ≤ 140737488355328) (hbase : base ≤ w.heap.size)
    (h : ∀ v' w', OwnL base e w' v' (xs ++ ys) → (∀ S, (∀ k, v.ownBlock = some k → k ∈ S) → Kept S w w') → (∀ k, v'.ownBlock = some k → v.ownBlock = some k ∨ w.heap.size ≤ k) → wpList P ops Q rest (a.put o.dst v') w') :
    wpList P ops Q (o :: rest) a w := by
  have hl := hsl.len.1
  refine wpList_append_Own _ hgd s y t ho base e z 1 bytes ht hinfo hzs (by decide) v xs.length xs hs hown ⟨g, off, none⟩ m c ys hx (by omega) (fun j u hj => ?_) h1 h63 hbytes hbase ?_
  · obtain ⟨hj', rfl⟩ := List.getElem?_eq_some_iff.1 hj
    obtain ⟨g', off', he, hc⟩ := hsl.cell hj'
    cases he
    rw [Addr.add_lit]; exact hc
  · intro v' w' h2 h3 h4
    exact h v' w' (by unfold OwnL; rw [List.length_append, ← hl]; exact h2) (fun S hS => (Kept.refl S w).grown h3 (fun k hk _ => hS k hk)) h4

theorem Kept.of_grow {base : Nat} {E : TypeId} {T : List Nat} {w w' : World} {v : Value} {xs : List Value} (hO : OwnL base E w v xs) (hni : NotIn T v) (hg : ∀ S, (∀ k, v.ownBlock = some k → k ∈ S) → Kept S w w') :
    ∃ S, Kept S w w' ∧ (∀ t ∈ T, t ∉ S) ∧ ∀ k ∈ S, base ≤ k := by
  cases hv : v.ownBlock with
  | none => exact ⟨[], hg [] (fun k hk => by rw [hv] at hk; cases hk), by simp, by simp⟩
  | some g =>
    have h1 := hni g hv
    have h2 := (hO.lt g hv).1
    exact ⟨[g], hg [g] (fun k hk => by rw [hv] at hk; cases hk; simp), fun t ht hm => by simp at hm; subst hm; exact h1 ht, fun k hk => by simp at hk; omega⟩

set_option maxRecDepth 100000 in
set_option maxHeartbeats 4000000 in
theorem walk (w : World) (a : Option Addr) (n cap : Nat) (xs : List Value) (hs : Sl w (.slice a n cap) xs) (ho : ∀ x ∈ xs, ∃ s : ByteArray, x = .string s) (p : Int) (hp : 0 ≤ p ∧ p ≤ 255) (q : Int) (hq : 0 ≤ q ∧ q ≤ 255) :
    Calls Try.prog 4 #[.slice a n cap, .int .u8 p, .int .u8 q] w fun e w' => e = .returned (.bool true) ∧ Kept [] w w' := by
  obtain ⟨hn, hcap, hmax⟩ := hs.len
  subst hn
  unfold maxLen at hmax
  obtain ⟨p0, p1⟩ := hp
  obtain ⟨q0, q1⟩ := hq
  by_cases hbad : 150 < xs.length
  · have hbad' : (150 : Int) < (xs.length : Int) := by omega
    go_enter Try.func4, Try.ntmps4
    go_wp2_with fail
    refine (awake_true w).mono ?_
    rintro e w1 ⟨rfl, hK1⟩
    go_wp2_with fail
    refine (awake_true w1).mono ?_
    rintro e w2 ⟨rfl, hK2⟩
    go_wp2_with fail
    go_ret
    exact ⟨rfl, hK1.trans hK2⟩
  have hl2 : ¬ (150 : Int) < (xs.length : Int) := by omega
  obtain ⟨M, hM⟩ : ∃ M : Nat, 1 + p % 40 = (M : Int) := ⟨(1 + p % 40).toNat, by omega⟩
  have hM1 : 1 ≤ M := by omega
  have hM2 : M ≤ 40 := by omega
  obtain ⟨W, hW⟩ : ∃ W : Nat, 1 + q % 32 = (W : Int) := ⟨(1 + q % 32).toNat, by omega⟩
  have hW1 : 1 ≤ W := by omega
  have hW2 : W ≤ 32 := by omega
  have HM := hid hM
  have HW := hid hW
  clear hM hW
  go_enter Try.func4, Try.ntmps4
  go_wp2_with fail
  refine (awake_true w).mono ?_
  rintro e w1 ⟨rfl, hKp1⟩
  go_wp2_with fail
  refine (SSt.new_any _ _ M W HM.out HW.out w1 (by omega) (by omega) hW1 hW2).mono ?_
  rintro e w2 ⟨c, b, bs, rfl, hS, hKp2, hc, hb, hbs⟩
  have hKp := hKp1.trans hKp2
  have hsz := hKp1.size
  have hd : w.heap.size ≤ c ∧ w.heap.size ≤ b ∧ w.heap.size ≤ bs := by omega
  clear hKp1 hKp2 hc hb hbs hsz
  go_wp2_with fail
  go_loopw [10, 11, 12] (fun pv v kv wr => ∃ P G k : Nat, G ≤ P ∧ P ≤ xs.length ∧ k ≤ G ∧ P - G ≤ M ∧ pv = .int .i64 (P : Int) ∧ kv = .int .i64 (k : Int) ∧ SSt.Send wr c b bs M W G (seg xs G P) ∧ OwnL w.heap.size 9 wr v (xs.take G) ∧ NotIn [c, b, bs] v ∧ Kept [] w wr) (fun _ _ kv _ => 400 - (intOf kv).toNat)
  case atStart => exact ⟨0, 0, 0, by omega, by omega, by omega, by omega, rfl, rfl, by simpa [seg] using hS, by rw [List.take_zero]; exact OwnL.nil _ _ _, (fun k hk => by cases hk), hKp⟩
  case round =>
    clear hS hKp
    obtain ⟨P, G, k, h1, h2, h3, h4, rfl, rfl, hS, hO, hni, hKp⟩ := hrel
    obtain ⟨va, vn, vc, hv⟩ := hO.form'
    subst hv
    have hvn : vn = G := by have := hO.sl.len.1; rw [this, List.length_take]; omega
    subst hvn
    by_cases hG : vn < xs.length
    · have hG' : (vn : Int) < (xs.length : Int) := by omega
      have hk400 : (k : Int) < 400 := by omega
      have hk400' : k < 400 := by omega
      go_wp2_with fail
      obtain ⟨wo, rfl⟩ : ∃ wo : World, wo = wr := ⟨_, rfl⟩
      go_loopw [10] (fun pv wr => ∃ P : Nat, vn ≤ P ∧ P ≤ xs.length ∧ P - vn ≤ M ∧ pv = .int .i64 (P : Int) ∧ SSt.Send wr c b bs M W vn (seg xs vn P) ∧ OwnL w.heap.size 9 wr (.slice va vn vc) (xs.take vn) ∧ Kept [] w wr) (fun pv _ => xs.length - (intOf pv).toNat)
      case atStart => exact ⟨P, h1, h2, h4, rfl, hS, hO, hKp⟩
      case round =>
        clear hS hKp hO h1 h2 h4
        obtain ⟨P, h1, h2, h4, rfl, hS, hO, hKp⟩ := hrel
        -- behind the inner loop
        by_cases hP : P < xs.length ∧ P - vn < M
        · obtain ⟨hP1, hP2⟩ := hP
          have hP1' : (P : Int) < (xs.length : Int) := by omega
          obtain ⟨g, off, rfl, hc⟩ := (hs.old hKp (by simp)).cell hP1
          obtain ⟨s, hx⟩ := ho _ (List.getElem_mem hP1)
          rw [hx] at hc
          have Hx := hid hx
          clear hx
          go_wp2_with fail
          refine (SSt.put_ok hS (by rw [seg_len h2]; exact hP2) s).mono ?_
          rintro e w3 ⟨rfl, hS3, hK3⟩
          have hS4 : SSt.Send w3 c b bs M W vn (seg xs vn (P + 1)) := by rw [← seg_snoc hP1 h1, Hx.out]; exact hS3
          have hO4 := hO.kept hK3 (fun k hk => by have := hni k hk; simp at this ⊢; omega)
          have hKp4 := hKp.join hK3 (fun i hi hlt => by simp at hi; omega)
          clear hS hKp hO hS3 hK3 hc
          go_wp2_with fail
          go_roundw
          case rel => exact ⟨P + 1, by omega, by omega, by omega, by go_num, hS4, hO4, hKp4⟩
          case measure => simp [intOf]; omega
        · have hex : ¬ P < xs.length ∨ (P < xs.length ∧ P - vn = M) := by omega
          rcases hex with hex | ⟨hex1, hex⟩
          · have hex' : ¬ (P : Int) < (xs.length : Int) := by omega
            go_wp2_with fail
            have hPG : vn < P := by omega
            refine (SSt.window_any hS (fun x hx => ho x (seg_mem hx))).mono ?_
            rintro e w3 ⟨v3, rfl, hO3, hK3⟩
            have hS3 := hS.kept hK3 (by simp) (by simp) (by simp)
            have hOg := hO.kept hK3 (not_in_nil _)
            have hKp3 := hKp.trans hK3
            have hlt3 := hS3.lt
            obtain ⟨a3, n3, c3, hv3⟩ := hO3.form'
            subst hv3
            have hn3 : n3 = min (P - vn) W := by have := hO3.sl.len.1; rw [this, List.length_take, seg_len h2]; omega
            have hn3p : 0 < n3 := by omega
            have hn3b : n3 ≤ 32 := by omega
            have hn3' : ((n3 : Int) == 0) = false := by simp; omega
            obtain ⟨g3, off3, rfl, hc3⟩ := hO3.sl.cell (i := 0) (by have := hO3.sl.len.1; omega)
            have hB3 : w.heap.size ≤ w3.heap.size := hKp3.size
            have HN3 := hid hn3
            have hvl : (xs.take vn).length = vn := by rw [List.length_take]; omega
            have HVL := hid hvl
            have hone3 := strs_one (ys := (seg xs vn P).take W) (fun x hx => ho x (seg_mem (List.mem_of_mem_take hx)))
            have HO3 := hid hO3.sl
            have HONE := hid hone3
            have HOG := hid hOg
            clear hS hO hKp hK3 hn3 hc3 hO3 hvl hone3 hOg
            go_wp2_with (at_builtin; refine wpList_append_LL w3 rfl (.tmp 77) (.tmp 78) 22 rfl w.heap.size 9 (.string ⟨#[]⟩) 16 Try.underlying22 RSt.info_elem rfl _ (xs.take vn) ((seg xs vn P).take W) rfl HOG.out g3 off3 n3 c3 rfl HO3.out hn3p HONE.out (by rw [HVL.out]; unfold maxLen; omega) (by rw [HVL.out]; omega) hB3 ?_; intro v' w4 hown' hgrow hlie)
            rw [seg_got h2 h1 HN3.out] at hown'
            obtain ⟨S4, hS4k, hS4n, hS4b⟩ := Kept.of_grow HOG.out hni hgrow
            have hS4 := hS3.kept hS4k (hS4n c (by simp)) (hS4n b (by simp)) (hS4n bs (by simp))
            have hKp4 := hKp3.join hS4k (fun i hi hlt => by have := hS4b i hi; omega)
            have hni4 : NotIn [c, b, bs] v' := fun k hk => by
              rcases hlie k hk with h | h
              · exact hni k h
              · simp; omega
            obtain ⟨va', n', vc', hv'⟩ := hown'.form'
            subst hv'
            have hn' : n' = vn + n3 := by have := hown'.sl.len.1; rw [this, List.length_take]; have := HN3.out; omega
            have HN' := hid hn'
            have HO4 := hid hown'
            have hn'b : n' ≤ 150 := by have := HN3.out; omega
            clear hown' hgrow hlie hS4k hS4n hS4b hS3 hKp3 hn' HOG HO3 HONE hlt3
            go_wp2_with fail
            go_simp
            go_wp2_with fail
            refine (SSt.ack_ok hS4 (n' : Int) n3 (by have := HN'.out; omega) (by omega) (by rw [seg_len h2]; have := HN3.out; omega) (fun x hx => ho x (seg_mem hx))).mono ?_
            rintro e w5 ⟨rfl, hS5, hK5⟩
            rw [seg_drop] at hS5
            have hO5 := HO4.out.kept hK5 hni4
            have hKp5 := hKp4.join hK5 (fun i hi hlt => by simp at hi; omega)
            clear hS4 hKp4 hK5 HO4
            go_wp2_with fail
            go_roundw
            case rel => exact ⟨P, vn + n3, k + 1, by have := HN3.out; omega, by omega, by omega, by omega, rfl, by go_num, hS5, hO5, hni4, hKp5⟩
            case measure => simp [intOf]; omega
          · have hex' : (P : Int) < (xs.length : Int) := by omega
            obtain ⟨g, off, rfl, hc⟩ := (hs.old hKp (by simp)).cell hex1
            obtain ⟨s, hx⟩ := ho _ (List.getElem_mem hex1)
            rw [hx] at hc
            clear hx
            have hfull : (seg xs vn P).length = M := by rw [seg_len h2]; exact hex
            have HF := hid hfull
            have hexle : M ≤ P - vn := by omega
            clear hfull hex
            go_wp2_with fail
            refine (SSt.put_busy hS HF.out s).mono ?_
            rintro e w3 ⟨rfl, kd, rfl⟩
            have hS := hS.sim (w' := wr.drewN kd) ⟨rfl, rfl, rfl, rfl⟩
            have hO := hO.kept ((Kept.refl [] wr).drewN' kd) (not_in_nil _)
            have hKp := hKp.drewN' kd
            clear hc
            go_wp2_with fail
            have hPG : vn < P := by omega
            refine (SSt.window_any hS (fun x hx => ho x (seg_mem hx))).mono ?_
            rintro e w3 ⟨v3, rfl, hO3, hK3⟩
            have hS3 := hS.kept hK3 (by simp) (by simp) (by simp)
            have hOg := hO.kept hK3 (not_in_nil _)
            have hKp3 := hKp.trans hK3
            have hlt3 := hS3.lt
            obtain ⟨a3, n3, c3, hv3⟩ := hO3.form'
            subst hv3
            have hn3 : n3 = min (P - vn) W := by have := hO3.sl.len.1; rw [this, List.length_take, seg_len h2]; omega
            have hn3p : 0 < n3 := by omega
            have hn3b : n3 ≤ 32 := by omega
            have hn3' : ((n3 : Int) == 0) = false := by simp; omega
            obtain ⟨g3, off3, rfl, hc3⟩ := hO3.sl.cell (i := 0) (by have := hO3.sl.len.1; omega)
            have hB3 : w.heap.size ≤ w3.heap.size := hKp3.size
            have HN3 := hid hn3
            have hvl : (xs.take vn).length = vn := by rw [List.length_take]; omega
            have HVL := hid hvl
            have hone3 := strs_one (ys := (seg xs vn P).take W) (fun x hx => ho x (seg_mem (List.mem_of_mem_take hx)))
            have HO3 := hid hO3.sl
            have HONE := hid hone3
            have HOG := hid hOg
            clear hS hO hKp hK3 hn3 hc3 hO3 hvl hone3 hOg
            go_wp2_with (at_builtin; refine wpList_append_LL w3 rfl (.tmp 77) (.tmp 78) 22 rfl w.heap.size 9 (.string ⟨#[]⟩) 16 Try.underlying22 RSt.info_elem rfl _ (xs.take vn) ((seg xs vn P).take W) rfl HOG.out g3 off3 n3 c3 rfl HO3.out hn3p HONE.out (by rw [HVL.out]; unfold maxLen; omega) (by rw [HVL.out]; omega) hB3 ?_; intro v' w4 hown' hgrow hlie)
            rw [seg_got h2 h1 HN3.out] at hown'
            obtain ⟨S4, hS4k, hS4n, hS4b⟩ := Kept.of_grow HOG.out hni hgrow
            have hS4 := hS3.kept hS4k (hS4n c (by simp)) (hS4n b (by simp)) (hS4n bs (by simp))
            have hKp4 := hKp3.join hS4k (fun i hi hlt => by have := hS4b i hi; omega)
            have hni4 : NotIn [c, b, bs] v' := fun k hk => by
              rcases hlie k hk with h | h
              · exact hni k h
              · simp; omega
            obtain ⟨va', n', vc', hv'⟩ := hown'.form'
            subst hv'
            have hn' : n' = vn + n3 := by have := hown'.sl.len.1; rw [this, List.length_take]; have := HN3.out; omega
            have HN' := hid hn'
            have HO4 := hid hown'
            have hn'b : n' ≤ 150 := by have := HN3.out; omega
            clear hown' hgrow hlie hS4k hS4n hS4b hS3 hKp3 hn' HOG HO3 HONE hlt3
            go_wp2_with fail
            go_simp
            go_wp2_with fail
            refine (SSt.ack_ok hS4 (n' : Int) n3 (by have := HN'.out; omega) (by omega) (by rw [seg_len h2]; have := HN3.out; omega) (fun x hx => ho x (seg_mem hx))).mono ?_
            rintro e w5 ⟨rfl, hS5, hK5⟩
            rw [seg_drop] at hS5
            have hO5 := HO4.out.kept hK5 hni4
            have hKp5 := hKp4.join hK5 (fun i hi hlt => by simp at hi; omega)
            clear hS4 hKp4 hK5 HO4
            go_wp2_with fail
            go_roundw
            case rel => exact ⟨P, vn + n3, k + 1, by have := HN3.out; omega, by omega, by omega, by omega, rfl, by go_num, hS5, hO5, hni4, hKp5⟩
            case measure => simp [intOf]; omega
    · have hG' : ¬ (vn : Int) < (xs.length : Int) := by omega
      have hPn : vn = xs.length := by omega
      have HPn := hid hPn
      have hpl : P = xs.length := by omega
      have hsg : seg xs vn P = [] := List.eq_nil_of_length_eq_zero (by rw [seg_len h2]; omega)
      rw [hsg] at hS
      have hOf := hO.sl
      rw [hPn, List.take_length, ← hPn] at hOf
      have hcmp : ((vn : Int) == (xs.length : Int)) = true := by simp; omega
      have HOF := hid hOf
      clear hPn hpl hsg hO hOf
      go_wp2_with fail
      refine (same_true _ _ _ _ _ _ _ _ HOF.out (hs.old hKp (by simp)) ho).mono ?_
      rintro e w3 ⟨rfl, kd, rfl⟩
      have hS3 := hS.sim (w' := wr.drewN kd) ⟨rfl, rfl, rfl, rfl⟩
      go_wp2_with fail
      refine (SSt.len_any hS3).mono ?_
      rintro e w4 ⟨rfl, rfl⟩
      go_wp2_with fail
      refine (SSt.acked_any hS3).mono ?_
      rintro e w4 ⟨rfl, rfl⟩
      go_wp2_with fail
      go_ret
      exact ⟨rfl, hKp.drewN' kd⟩
end SendAll
end Go.Proofs.Ytnbdodgdabgafaa
