/- enumerate.on's comparison. No condition but that both indexes lie in the topology. -/
import Derived.Test.YtedihfcbpgogoaaC
import Derived.Test.YtedihfcbpgogoaaSh
import Derived.Lib.SlKeysI
namespace Go.Proofs.Ytedihfcbpgogoaa
open Go.RowKit
set_option maxRecDepth 100000 in
set_option maxHeartbeats 1000000 in
theorem onCmp_any {w0 W : World} {a : Option Addr} {len cap X : Nat} {T : List Fn} (H : FnS w0 a len cap T) (hb : ∀ p : Addr, p.block < w0.heap.size → W.cell? p = w0.cell? p) (hX : W.cell? ⟨X, 0, none⟩ = some (.slice a len cap)) {x y : Nat} (hx : x < len) (hy : y < len) :
    Calls Try.prog 45 #[.int .i64 (x : Int), .int .i64 (y : Int), .pointer (some ⟨X, 0, none⟩)] W fun e w' => e = .returned (.int .i64 (Lib.compareInt (fAt T x).sl (fAt T y).sl)) ∧ ∃ q, w' = W.drewN q := by
  obtain ⟨b, o, rfl, hbl, _, _, hr⟩ := H.at hx
  obtain ⟨b', o', e, _, _, _, hr'⟩ := H.at hy
  injection e with e
  injection e with e1 e2 e3
  subst e1 e2
  obtain ⟨_, hc, _⟩ := H.len
  have S0 : Hid (W.drew.cell? ⟨X, 0, none⟩ = some (.slice (some ⟨b, o, none⟩) len cap) ∧ W.drew.cell? ⟨b, o + x * 11 + 1, none⟩ = some (.int .i64 (fAt T x).sl) ∧ W.drew.cell? ⟨b, o + y * 11 + 1, none⟩ = some (.int .i64 (fAt T y).sl)) :=
    ⟨hX, (hb ⟨b, o + x * 11 + 1, none⟩ hbl).trans (rangeAt.cell hr (j := 1) rfl), (hb ⟨b, o + y * 11 + 1, none⟩ hbl).trans (rangeAt.cell hr' (j := 1) rfl)⟩
  have HC := Lib.hid (Try.cmp_Compare_int (fAt T x).sl (fAt T y).sl W.drew)
  have hxI : (x : Int) < len := by omega
  have hyI : (y : Int) < len := by omega
  clear hr hr' H hb hX
  generalize (fAt T x).sl = sx at *
  generalize (fAt T y).sl = sy at *
  go_enter Try.func45, Try.ntmps45
  go_wp2_with fail
  refine wp_region_pl (fun Z => Z.cell? ⟨X, 0, none⟩ = some (.slice (some ⟨b, o, none⟩) len cap) ∧ Z.cell? ⟨b, o + x * 11 + 1, none⟩ = some (.int .i64 sx) ∧ Z.cell? ⟨b, o + y * 11 + 1, none⟩ = some (.int .i64 sy))
    ((0, 0) :: (1, 0) :: (2, 0) :: (3, 0) :: (4, 0) :: (5, 0) :: (6, 0) :: (7, 0) :: (8, 0) :: (9, 0) :: (10, 1) :: (11, 0) :: []) (by kernel_rfl) (by kernel_rfl) ?_
  iterate 10 (apply wpP_go; (focus rfl); (focus rfl); (focus exact S0.out); (focus (rintro Z ⟨s0, s1, s2⟩; go_simp; exact rfl)); intro K hK; go_simp; refine hK _ ?_; clear hK K)
  apply wpP_one
  focus rfl
  intro K hK
  go_simp
  refine HC.out.mono ?_
  rintro e w1 ⟨rfl, rfl⟩
  refine hK _ _ S0.out ?_
  clear hK K
  iterate 1 (apply wpP_go; (focus rfl); (focus rfl); (focus exact S0.out); (focus (rintro Z ⟨s0, s1, s2⟩; go_simp; exact rfl)); intro K hK; go_simp; refine hK _ ?_; clear hK K)
  refine wpP_done ?_
  go_wp2_with fail
  go_ret
  exact ⟨rfl, 1, rfl⟩
end Go.Proofs.Ytedihfcbpgogoaa
