/- The law's own helper 'act', whole. -/
import Derived.Test.YtagemhmjpfldoaaLinkAct0
import Derived.Test.YtagemhmjpfldoaaLinkAct1
import Derived.Test.YtagemhmjpfldoaaLinkAct2
import Derived.Test.YtagemhmjpfldoaaLinkAct3
import Derived.Test.YtagemhmjpfldoaaLinkAct4
import Derived.Test.YtagemhmjpfldoaaLinkAct5
import Derived.Test.YtagemhmjpfldoaaLinkAct6
import Derived.Test.YtagemhmjpfldoaaLinkAct7
import Derived.Test.YtagemhmjpfldoaaLinkAct8
namespace Go.Proofs.Ytagemhmjpfldoaa
open Go.RowKit
set_option linter.unusedVariables false
set_option linter.unusedSimpArgs false

theorem act_any {w0 : World} {T : Nat → Nat} {w : World} {wb : Nat} {A B : Ends} {m win : Nat} {V : Six} {lA lB : List (Pk × Value)} {s : St} (h : Wo w0 T w wb A B m win V lA lB s) (hinv : Inv m win s) (hsm : Small 100000 s)
    (k : Int) (hk1 : 0 ≤ k) (hk2 : k ≤ 255) (x : ByteArray) (n : Int) (hn1 : -9223372036854775808 ≤ n) (hn2 : n ≤ 9223372036854775807) :
    Calls Try.prog 12 #[.pointer (some ⟨wb, 0, none⟩), .agg #[.int .u8 k, .string x, .int .i64 n]] w (ActPost w0 wb A B m win (s.step m win k (.string x) (.int .i64 n) n)) := by
  have hgA : s.gA.length ≤ 100000 := by have := hinv.ba.gn; have := hinv.ba.np; have := hsm.pB; omega
  have hgB : s.gB.length ≤ 100000 := by have := hinv.ab.gn; have := hinv.ab.np; have := hsm.pA; omega
  have hlA : lA.length ≤ 100000 := by have := hsm.tA; rw [h.fA] at this; simpa using this
  have hlB : lB.length ≤ 100000 := by have := hsm.tB; rw [h.fB] at this; simpa using this
  unfold St.step
  by_cases h0 : k % 9 = 0
  · rw [if_pos h0]; exact act0 h hsm.pA k hk1 hk2 h0 x n hn1 hn2
  rw [if_neg h0]
  by_cases h1 : k % 9 = 1
  · rw [if_pos h1]; exact act1 h hsm.pB k hk1 hk2 h1 x n hn1 hn2
  rw [if_neg h1]
  by_cases h2 : k % 9 = 2
  · rw [if_pos h2]; exact act2 h hsm.tB k hk1 hk2 h2 x n hn1 hn2
  rw [if_neg h2]
  by_cases h3 : k % 9 = 3
  · rw [if_pos h3]; exact act3 h hsm.tA k hk1 hk2 h3 x n hn1 hn2
  rw [if_neg h3]
  by_cases h4 : k % 9 = 4
  · rw [if_pos h4]; exact act4 h hinv hlB hsm.pA hsm.pB k hk1 hk2 h4 x n hn1 hn2
  rw [if_neg h4]
  by_cases h5 : k % 9 = 5
  · rw [if_pos h5]; exact act5 h hinv hlA hsm.pA hsm.pB k hk1 hk2 h5 x n hn1 hn2
  rw [if_neg h5]
  by_cases h6 : k % 9 = 6
  · rw [if_pos h6]; exact act6 h hgA k hk1 hk2 h6 x n hn1 hn2
  rw [if_neg h6]
  by_cases h7 : k % 9 = 7
  · rw [if_pos h7]; exact act7 h hgB k hk1 hk2 h7 x n hn1 hn2
  rw [if_neg h7]
  exact act8 h k hk1 hk2 h0 h1 h2 h3 h4 h5 h6 h7 x n hn1 hn2
end Go.Proofs.Ytagemhmjpfldoaa
