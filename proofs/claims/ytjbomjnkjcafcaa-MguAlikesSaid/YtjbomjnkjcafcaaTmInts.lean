/- Terms: the law's Fix and Ints. -/
import Derived.Test.YtjbomjnkjcafcaaTmFixB
import Derived.Test.YtjbomjnkjcafcaaTmVars
namespace Go.Proofs.Ytjbomjnkjcafcaa
open Go.RowKit

set_option maxHeartbeats 800000 in
theorem lFix_any (t : Tm) (v : TV) (w : World) (ht : Tr w (fun _ => True) t v) : Calls Try.prog 7 #[tvV v] w (TDone [] (fun b => w.heap.size ≤ b) w (lFix t)) := by
  have HT := Lib.hid ht
  clear ht
  unfold tvV
  obtain ⟨k, n, s, A, m, c⟩ := v
  go_enter Try.func7, Try.ntmps7
  go_upto_region 1 with fail
  have hB0 : Blk ((w.alloc (.cells #[.int .i64 k, .int .i64 n, .string s, .slice A m c] 24)).alloc (.cells #[.int .i64 0, .int .i64 0, .string ⟨#[]⟩, .slice none 0 0] 24)) w.heap.size 24 #[.int .i64 k, .int .i64 n, .string s, .slice A m c] := (Blk.new _ _ _).alloc _
  have hBr : Blk ((w.alloc (.cells #[.int .i64 k, .int .i64 n, .string s, .slice A m c] 24)).alloc (.cells #[.int .i64 0, .int .i64 0, .string ⟨#[]⟩, .slice none 0 0] 24)) (w.heap.size + 1) 24 #[.int .i64 0, .int .i64 0, .string ⟨#[]⟩, .slice none 0 0] := Blk.newAt _ _ (by simp)
  have hK0 : Keeps w ((w.alloc (.cells #[.int .i64 k, .int .i64 n, .string s, .slice A m c] 24)).alloc (.cells #[.int .i64 0, .int .i64 0, .string ⟨#[]⟩, .slice none 0 0] 24)) [] := ((Keeps.refl w []).alloc _).alloc _
  generalize (w.alloc (.cells #[.int .i64 k, .int .i64 n, .string s, .slice A m c] 24)).alloc (.cells #[.int .i64 0, .int .i64 0, .string ⟨#[]⟩, .slice none 0 0] 24) = w0 at hB0 hBr hK0 ⊢
  have q0 := hB0.cell 0
  have q1 := hB0.cell 1
  have q2 := hB0.cell 2
  have q3 := hB0.cell 3
  have HC := Lib.hid (fix_any 4 (by omega) t ⟨k, n, s, A, m, c⟩ w0 30 (HT.out.keep hK0) (by decide) (by omega))
  have HBr := Lib.hid hBr
  have HK0 := Lib.hid hK0
  clear hB0 hBr hK0
  unfold tvV at HC
  go_wp2_with fail
  refine HC.out.mono ?_
  rintro e w1 ⟨u, rfl, hu, k1⟩
  have HU : Hid (Tr w1 (fun b => w0.heap.size ≤ b) (lFix t) u) := hu
  have HK1 := Lib.hid k1
  unfold tvV
  clear hu k1 HC
  have hb4 : Blk (w1.alloc (.cells #[.int .i64 u.k, .int .i64 u.n, .string u.s, .slice u.A u.len u.c] 24)) w1.heap.size 24 #[.int .i64 u.k, .int .i64 u.n, .string u.s, .slice u.A u.len u.c] := Blk.new _ _ _
  have hbr := (HBr.out.keep HK1.out (by simp)).alloc (.cells #[.int .i64 u.k, .int .i64 u.n, .string u.s, .slice u.A u.len u.c] 24)
  have HK2 := Lib.hid ((HK0.out.trans HK1.out).alloc (.cells #[.int .i64 u.k, .int .i64 u.n, .string u.s, .slice u.A u.len u.c] 24))
  have HU2 := Lib.hid (HU.out.keep ((Keeps.refl w1 []).alloc (.cells #[.int .i64 u.k, .int .i64 u.n, .string u.s, .slice u.A u.len u.c] 24)))
  go_upto_region 2 with fail
  generalize w1.alloc (.cells #[.int .i64 u.k, .int .i64 u.n, .string u.s, .slice u.A u.len u.c] 24) = w2 at hb4 hbr HK2 HU2 ⊢
  have y0 := hb4.cell 0
  have y1 := hb4.cell 1
  have y2 := hb4.cell 2
  have y3 := hb4.cell 3
  have r0 := hbr.cell 0
  have r1 := hbr.cell 1
  have r2 := hbr.cell 2
  have r3 := hbr.cell 3
  have f0 := hbr.frozen 0
  have f1 := hbr.frozen 1
  have f2 := hbr.frozen 2
  have f3 := hbr.frozen 3
  have hlt := HBr.out.lt
  have HD := Lib.hid ((HU2.out.mono (S' := fun b => w.heap.size ≤ b ∧ b ≠ w.heap.size + 1) fun b hb => ⟨by omega, by omega⟩).end4 (.int .i64 u.k) (.int .i64 u.n) (.string u.s) (.slice u.A u.len u.c) HK2.out (by omega))
  clear hb4 hbr hlt q0 q1 q2 q3
  go_wp2_with fail
  exact bodyPost_ret (v := .agg #[.int .i64 u.k, .int .i64 u.n, .string u.s, .slice u.A u.len u.c]) (by simp [results, Try.results7, go_sem, *]) rfl HD.out

end Go.Proofs.Ytjbomjnkjcafcaa
