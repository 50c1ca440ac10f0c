/- bound: one of a slice. -/
import Derived.Test.YtjdcicopjipmnaaDoorStp
namespace Go.Proofs.YtjdcicopjipmnaaDoor
open Go.RowKit
set_option linter.unusedVariables false
set_option linter.unusedSimpArgs false
set_option maxRecDepth 100000 in
set_option maxHeartbeats 4000000 in
theorem w116_none {X : Cx} {F : Nat → Prop} {s s1 : PS} {T : TokD} {t : ByteArray} {y : Int}
    (k0 : Step X F 102 #[X.p, .string t, .int .i64 (0 : Nat)] s (.bool true) s)
    (k1 : Step X F 76 #[X.p, .int .i64 (0 : Nat)] s (tokV T) s)
    (k2 : Step X F 79 #[X.p, .int .i64 1, .int .i64 T.at_, .string ⟨#[]⟩, .int .i64 0, .slice none 0 0] s (.int .i64 y) s1) :
    Step X F 116 #[X.p, .string t] s (.int .i64 y) s1 := by
  intro w h
  have HP := Lib.hid h
  have K0 := Lib.hid k0
  have K1 := Lib.hid k1
  have K2 := Lib.hid k2
  have HK := Lib.hid (KeepE.refl X.B (fun _ => False) w)
  obtain ⟨c2, c4, c5, hlt⟩ := h.cells
  clear h k0 k1 k2
  go_enter Tryd.func116, Tryd.ntmps116
  go_wp2_with (first | (go_at_call 102; go_must (first | (refine (K0.out _ HP.out).mono ?_; clear K0; rintro e w0 ⟨rfl, hp, hk⟩; replace HK := Lib.hid (HK.out.trans hk); replace HP := Lib.hid hp; clear hp hk; (try clear c2 c4 c5 hlt); obtain ⟨c2, c4, c5, hlt⟩ := HP.out.cells))) | (go_at_call 76; go_must (first | (refine (K1.out _ HP.out).mono ?_; clear K1; rintro e w1 ⟨rfl, hp, hk⟩; replace HK := Lib.hid (HK.out.trans hk); replace HP := Lib.hid hp; clear hp hk; (try clear c2 c4 c5 hlt); obtain ⟨c2, c4, c5, hlt⟩ := HP.out.cells; have hf := fldT T w1))) | (go_at_call 79; go_must (first | (refine (K2.out _ HP.out).mono ?_; clear K2; rintro e w2 ⟨rfl, hp, hk⟩; replace HK := Lib.hid (HK.out.trans hk); replace HP := Lib.hid hp; clear hp hk; (try clear c2 c4 c5 hlt); obtain ⟨c2, c4, c5, hlt⟩ := HP.out.cells))))
  go_ret
  exact ⟨rfl, HP.out, HK.out⟩
set_option maxRecDepth 100000 in
set_option maxHeartbeats 4000000 in
theorem w116_expr {X : Cx} {F : Nat → Prop} {s s1 : PS} {t : ByteArray} {y : Int}
    (k0 : Step X F 102 #[X.p, .string t, .int .i64 (0 : Nat)] s (.bool false) s)
    (k1 : Step X F 55 #[X.p] s (.int .i64 y) s1) :
    Step X F 116 #[X.p, .string t] s (.int .i64 y) s1 := by
  intro w h
  have HP := Lib.hid h
  have K0 := Lib.hid k0
  have K1 := Lib.hid k1
  have HK := Lib.hid (KeepE.refl X.B (fun _ => False) w)
  obtain ⟨c2, c4, c5, hlt⟩ := h.cells
  clear h k0 k1
  go_enter Tryd.func116, Tryd.ntmps116
  go_wp2_with (first | (go_at_call 102; go_must (first | (refine (K0.out _ HP.out).mono ?_; clear K0; rintro e w0 ⟨rfl, hp, hk⟩; replace HK := Lib.hid (HK.out.trans hk); replace HP := Lib.hid hp; clear hp hk; (try clear c2 c4 c5 hlt); obtain ⟨c2, c4, c5, hlt⟩ := HP.out.cells))) | (go_at_call 55; go_must (first | (refine (K1.out _ HP.out).mono ?_; clear K1; rintro e w1 ⟨rfl, hp, hk⟩; replace HK := Lib.hid (HK.out.trans hk); replace HP := Lib.hid hp; clear hp hk; (try clear c2 c4 c5 hlt); obtain ⟨c2, c4, c5, hlt⟩ := HP.out.cells))))
  go_ret
  exact ⟨rfl, HP.out, HK.out⟩
theorem bound_any {X : Cx} {ex : Ex} (hex : Part X 55 ex) {F : Nat → Prop} {fin : ByteArray} (hf : fin.size ≤ maxLen) {s : PS} {r : PS × Int} (h : boundE ex X.L fin s = some r) (hc : r.1.ns.length ≤ 1099511627776) : Step X F 116 #[X.p, .string fin] s (.int .i64 r.2) r.1 := by
  have k := is_step (X := X) (F := F) (s := s) fin hf 0 (by omega)
  unfold boundE at h
  split at h
  · rename_i hy
    rw [hy] at k
    obtain rfl := Option.some.inj h
    exact w116_none k (tok_step 0 (by omega)) (add_step hc)
  · rename_i hy
    rw [Bool.eq_false_iff.2 hy] at k
    exact w116_expr k (hex F s r h hc)
end Go.Proofs.YtjdcicopjipmnaaDoor
