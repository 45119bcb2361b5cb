/- Words used by all. -/
import Derived.Test.YtoeekjddeknmbaaGreatTryTab
import Derived.Test.YtoeekjddeknmbaaGreatAl4
open Go Go.AL
namespace Go.Proofs.YtoeekjddeknmbaaGreat
abbrev LI (l : List Int) : AVal := .ls (.il .i64 l) .any
abbrev I (n : Int) : AVal := .int .i64 n
/- A walk's steps, told once: the goal's next step, what is decided by the context. -/
theorem ghT {n0 nt : Nat} {tm : Nat → AVal} {h : Heap} {l : List (Nat × AVal)} (hh : Holds h tm l := by repeat (first | exact Holds.nil _ _ | refine Holds.cons (Wk.refl _ _) ?_)) : Gh n0 nt ⟨tm, h⟩ ⟨tmL l, h⟩ := Gh.tm hh
theorem stp {X Y : Prop} (hY0 : Y) (h : Y → X := by
 intro hY
 first
 | exact hk.brLssT (by omega) hY
 | exact hk.brLssF (by omega) hY
 | exact hk.brLeqT (by omega) hY
 | exact hk.brLeqF (by omega) hY
 | exact hk.brGtrT (by omega) hY
 | exact hk.brGtrF (by omega) hY
 | exact hk.brGeqT (by omega) hY
 | exact hk.brGeqF (by omega) hY
 | exact hk.brEqlT (by omega) hY
 | exact hk.brEqlF (by omega) hY
 | exact hk.brNeqT (by omega) hY
 | exact hk.brNeqF (by omega) hY
 | exact hk.brNotT hY
 | exact hk.brNotF hY
 | exact hk.brNotS _ (by simp [hk.c2_lss, hk.c2_leq, hk.c2_gtr, hk.c2_geq, hk.c2_eql, hk.c2_neq, hk.bn_eq, hk.bq_eq]; rfl) hY
 | exact hk.brBqS _ (by simp [hk.c2_lss, hk.c2_leq, hk.c2_gtr, hk.c2_geq, hk.c2_eql, hk.c2_neq, hk.bn_eq, hk.bq_eq]; rfl) hY
 | exact hk.idxI (by first | omega | assumption) (by first | omega | assumption) hY
 | exact hk.nzI (by first | omega | assumption | decide) hY
 | exact hk.ge0I (by first | omega | assumption) hY
 | exact hk.needI (by first | (simp only [rNd, hk.sb_eq, hk.ad_eq]; omega) | (simp [rNd, hk.sb_eq, hk.ad_eq]; omega)) hY
 | exact hk.callA (by assumption) hY
 | exact hk.calldA (by assumption) hY
 | exact hk.callA ((by assumption : ∀ h, Does PP _ _ h (Is _ h)) _) hY
 | (rw [hk.sb0]; exact hY)
 | (rw [hk.ad0]; exact hY)) : X := h hY0
theorem stpB {C D X Y Z : Prop} (h3 : C → X) (h4 : D → Y) (h : (C → X) → (D → Y) → Z := by
 intro h1 h2
 first
 | exact hk.brLss h1 h2
 | exact hk.brLeq h1 h2
 | exact hk.brGtr h1 h2
 | exact hk.brGeq h1 h2
 | exact hk.brEql h1 h2
 | exact hk.brNeq h1 h2) : Z := h h3 h4
theorem stpF {X : Prop} (h : X := by
 first
 | exact hk.finB (by first | rfl | (simp [hk.c2_lss, hk.c2_leq, hk.c2_gtr, hk.c2_geq, hk.c2_eql, hk.c2_neq, hk.bn_eq, hk.bq_eq]; done) | assumption)
 | exact hk.fin1 rfl) : X := h
theorem wlk {f : FuncId} (fn : Func) {args : List AVal} {h : Heap} {R : AVal → Heap → Prop}
 (hw : ∀ i2 c2 u1 cv mx mn ad sbt bn bq ba lnI gtI apI sbI stI rpI lnG gtG apG sbG stG rpG fi fb fs fl fg fc sln sgt sap ssb sc b2s s2b nd call calld callv callvd loop rfun fin, ∀ hk : HK PP h.length fn.ntmps i2 c2 u1 cv mx mn ad sbt bn bq ba lnI gtI apI sbI stI rpI lnG gtG apG sbG stG rpG fi fb fs fl fg fc sln sgt sap ssb sc b2s nd call calld callv callvd loop rfun fin,
   wpc ⟨i2, c2, u1, cv, mx, mn, ad, sbt, bn, bq, ba, lnI, gtI, apI, sbI, stI, rpI, lnG, gtG, apG, sbG, stG, rpG, fi, fb, fs, fl, fg, fc, sln, sgt, sap, ssb, sc, b2s, s2b, nd, call, calld, callv, callvd, loop, rfun, fin, fun _ => false, fun _ => false⟩ T M fn.ntmps (fn.body.getD .skip) ⟨args0 args, h⟩
    (endPost ⟨i2, c2, u1, cv, mx, mn, ad, sbt, bn, bq, ba, lnI, gtI, apI, sbI, stI, rpI, lnG, gtG, apG, sbG, stG, rpG, fi, fb, fs, fl, fg, fc, sln, sgt, sap, ssb, sc, b2s, s2b, nd, call, calld, callv, callvd, loop, rfun, fin, fun _ => false, fun _ => false⟩ T fn.results.toList R))
 (hf : PP.funcs[f]? = some fn := by kernel_rfl) (hB : okBS (fun _ => false) fn args.length = true := by kernel_rfl) : Does PP f args h R := doesF P_ok fn hf hB hw
theorem wlkS {f : FuncId} (st : Nat → Bool) (fn : Func) {args : List AVal} {h : Heap} {R : AVal → Heap → Prop}
 (hw : ∀ i2 c2 u1 cv mx mn ad sbt bn bq ba lnI gtI apI sbI stI rpI lnG gtG apG sbG stG rpG fi fb fs fl fg fc sln sgt sap ssb sc b2s s2b nd call calld callv callvd loop rfun fin, ∀ hk : HK PP h.length fn.ntmps i2 c2 u1 cv mx mn ad sbt bn bq ba lnI gtI apI sbI stI rpI lnG gtG apG sbG stG rpG fi fb fs fl fg fc sln sgt sap ssb sc b2s nd call calld callv callvd loop rfun fin,
   wpc ⟨i2, c2, u1, cv, mx, mn, ad, sbt, bn, bq, ba, lnI, gtI, apI, sbI, stI, rpI, lnG, gtG, apG, sbG, stG, rpG, fi, fb, fs, fl, fg, fc, sln, sgt, sap, ssb, sc, b2s, s2b, nd, call, calld, callv, callvd, loop, rfun, fin, fun _ => false, st⟩ T M fn.ntmps (fn.body.getD .skip) ⟨args0 args, h⟩
    (endPost ⟨i2, c2, u1, cv, mx, mn, ad, sbt, bn, bq, ba, lnI, gtI, apI, sbI, stI, rpI, lnG, gtG, apG, sbG, stG, rpG, fi, fb, fs, fl, fg, fc, sln, sgt, sap, ssb, sc, b2s, s2b, nd, call, calld, callv, callvd, loop, rfun, fin, fun _ => false, st⟩ T fn.results.toList R))
 (hf : PP.funcs[f]? = some fn := by kernel_rfl) (hB : okBS (st) fn args.length = true := by kernel_rfl) : Does PP f args h R := doesFs st P_ok fn hf hB hw
end Go.Proofs.YtoeekjddeknmbaaGreat
