/-
  The law CookieKeeps: all runs.
  Conditions: none.
-/
import Derived.Test.YtddiclnkfhldlaaKr2
import Derived.Test.YtddiclnkfhldlaaKr3
import Derived.Test.YtddiclnkfhldlaaKr4
import Derived.Test.YtddiclnkfhldlaaKr7
import Derived.Test.YtddiclnkfhldlaaKr8
import Derived.Test.YtddiclnkfhldlaaKr9
namespace Go.Proofs.Ytddiclnkfhldlaa
namespace Ab
structure RunsOK (hl : Bool) (h : Hd) : Prop where
  hd_ : runHd eK ckP hl h = true
  fin_ : runFin eK ckP ckRs hl h = true
  a_ : runA eN ckP hl h = true
  rm_ : runRm eK ckP hl h = true
  old_ : runOld eK ckP hl h = true
  ad2_ : runAdd eK ckP hl h 2 = true
  ad3_ : runAdd eK ckP hl h 3 = true
  ad4_ : runAdd eK ckP hl h 4 = true
  ad5_ : runAdd eK ckP hl h 5 = true
  at_ : runAt eK ckP hl h = true
  r30_ : runR30 eK ckP hl h = true
  t0_ : runTurn eK ckP hl h 0 = true
  t1_ : runTurn eK ckP hl h 1 = true
  en_ : runEnd eK ckP hl h = true
  inc_ : runInc eK ckP hl h = true
theorem runs_0_f : RunsOK false ⟨0, false, false⟩ := ⟨rk_0_f_hd, rk_0_f_fin, rk_0_f_a, rk_0_f_rm, rk_0_f_old, rk_0_f_ad2, rk_0_f_ad3, rk_0_f_ad4, rk_0_f_ad5, rk_0_f_at, rk_0_f_r30, rk_0_f_t0, rk_0_f_t1, rk_0_f_en, rk_0_f_inc⟩
theorem runs_0_t : RunsOK true ⟨0, false, false⟩ := ⟨rk_0_t_hd, rk_0_t_fin, rk_0_t_a, rk_0_t_rm, rk_0_t_old, rk_0_t_ad2, rk_0_t_ad3, rk_0_t_ad4, rk_0_t_ad5, rk_0_t_at, rk_0_t_r30, rk_0_t_t0, rk_0_t_t1, rk_0_t_en, rk_0_t_inc⟩
theorem runs_1_f : RunsOK false ⟨0, true, false⟩ := ⟨rk_1_f_hd, rk_1_f_fin, rk_1_f_a, rk_1_f_rm, rk_1_f_old, rk_1_f_ad2, rk_1_f_ad3, rk_1_f_ad4, rk_1_f_ad5, rk_1_f_at, rk_1_f_r30, rk_1_f_t0, rk_1_f_t1, rk_1_f_en, rk_1_f_inc⟩
theorem runs_1_t : RunsOK true ⟨0, true, false⟩ := ⟨rk_1_t_hd, rk_1_t_fin, rk_1_t_a, rk_1_t_rm, rk_1_t_old, rk_1_t_ad2, rk_1_t_ad3, rk_1_t_ad4, rk_1_t_ad5, rk_1_t_at, rk_1_t_r30, rk_1_t_t0, rk_1_t_t1, rk_1_t_en, rk_1_t_inc⟩
theorem runs_2_f : RunsOK false ⟨0, true, true⟩ := ⟨rk_2_f_hd, rk_2_f_fin, rk_2_f_a, rk_2_f_rm, rk_2_f_old, rk_2_f_ad2, rk_2_f_ad3, rk_2_f_ad4, rk_2_f_ad5, rk_2_f_at, rk_2_f_r30, rk_2_f_t0, rk_2_f_t1, rk_2_f_en, rk_2_f_inc⟩
theorem runs_2_t : RunsOK true ⟨0, true, true⟩ := ⟨rk_2_t_hd, rk_2_t_fin, rk_2_t_a, rk_2_t_rm, rk_2_t_old, rk_2_t_ad2, rk_2_t_ad3, rk_2_t_ad4, rk_2_t_ad5, rk_2_t_at, rk_2_t_r30, rk_2_t_t0, rk_2_t_t1, rk_2_t_en, rk_2_t_inc⟩
theorem runs_3_f : RunsOK false ⟨1, true, true⟩ := ⟨rk_3_f_hd, rk_3_f_fin, rk_3_f_a, rk_3_f_rm, rk_3_f_old, rk_3_f_ad2, rk_3_f_ad3, rk_3_f_ad4, rk_3_f_ad5, rk_3_f_at, rk_3_f_r30, rk_3_f_t0, rk_3_f_t1, rk_3_f_en, rk_3_f_inc⟩
theorem runs_3_t : RunsOK true ⟨1, true, true⟩ := ⟨rk_3_t_hd, rk_3_t_fin, rk_3_t_a, rk_3_t_rm, rk_3_t_old, rk_3_t_ad2, rk_3_t_ad3, rk_3_t_ad4, rk_3_t_ad5, rk_3_t_at, rk_3_t_r30, rk_3_t_t0, rk_3_t_t1, rk_3_t_en, rk_3_t_inc⟩
theorem runs_4_f : RunsOK false ⟨2, true, true⟩ := ⟨rk_4_f_hd, rk_4_f_fin, rk_4_f_a, rk_4_f_rm, rk_4_f_old, rk_4_f_ad2, rk_4_f_ad3, rk_4_f_ad4, rk_4_f_ad5, rk_4_f_at, rk_4_f_r30, rk_4_f_t0, rk_4_f_t1, rk_4_f_en, rk_4_f_inc⟩
theorem runs_4_t : RunsOK true ⟨2, true, true⟩ := ⟨rk_4_t_hd, rk_4_t_fin, rk_4_t_a, rk_4_t_rm, rk_4_t_old, rk_4_t_ad2, rk_4_t_ad3, rk_4_t_ad4, rk_4_t_ad5, rk_4_t_at, rk_4_t_r30, rk_4_t_t0, rk_4_t_t1, rk_4_t_en, rk_4_t_inc⟩
theorem runs_5_f : RunsOK false ⟨3, true, true⟩ := ⟨rk_5_f_hd, rk_5_f_fin, rk_5_f_a, rk_5_f_rm, rk_5_f_old, rk_5_f_ad2, rk_5_f_ad3, rk_5_f_ad4, rk_5_f_ad5, rk_5_f_at, rk_5_f_r30, rk_5_f_t0, rk_5_f_t1, rk_5_f_en, rk_5_f_inc⟩
theorem runs_5_t : RunsOK true ⟨3, true, true⟩ := ⟨rk_5_t_hd, rk_5_t_fin, rk_5_t_a, rk_5_t_rm, rk_5_t_old, rk_5_t_ad2, rk_5_t_ad3, rk_5_t_ad4, rk_5_t_ad5, rk_5_t_at, rk_5_t_r30, rk_5_t_t0, rk_5_t_t1, rk_5_t_en, rk_5_t_inc⟩
theorem runs_6_f : RunsOK false ⟨4, true, true⟩ := ⟨rk_6_f_hd, rk_6_f_fin, rk_6_f_a, rk_6_f_rm, rk_6_f_old, rk_6_f_ad2, rk_6_f_ad3, rk_6_f_ad4, rk_6_f_ad5, rk_6_f_at, rk_6_f_r30, rk_6_f_t0, rk_6_f_t1, rk_6_f_en, rk_6_f_inc⟩
theorem runs_6_t : RunsOK true ⟨4, true, true⟩ := ⟨rk_6_t_hd, rk_6_t_fin, rk_6_t_a, rk_6_t_rm, rk_6_t_old, rk_6_t_ad2, rk_6_t_ad3, rk_6_t_ad4, rk_6_t_ad5, rk_6_t_at, rk_6_t_r30, rk_6_t_t0, rk_6_t_t1, rk_6_t_en, rk_6_t_inc⟩
theorem runs_all (hl : Bool) : ∀ h ∈ allHd, RunsOK hl h := by
  intro h hh
  simp only [allHd, List.mem_cons, List.not_mem_nil, or_false] at hh
  rcases hh with rfl | rfl | rfl | rfl | rfl | rfl | rfl <;> cases hl
  · exact runs_0_f
  · exact runs_0_t
  · exact runs_1_f
  · exact runs_1_t
  · exact runs_2_f
  · exact runs_2_t
  · exact runs_3_f
  · exact runs_3_t
  · exact runs_4_f
  · exact runs_4_t
  · exact runs_5_f
  · exact runs_5_t
  · exact runs_6_f
  · exact runs_6_t
end Ab
end Go.Proofs.Ytddiclnkfhldlaa
