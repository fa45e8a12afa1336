/-
  PlanKeeps: the walk.
-/
import Derived.Test.YtagelhbknbpfhaaDoorPlanFits
import Derived.Test.YtagelhbknbpfhaaDoorPlanPlans
import Derived.Test.YtagelhbknbpfhaaDoorRefM
import Derived.Test.YtagelhbknbpfhaaDoorPlanS
namespace Go.Proofs.YtagelhbknbpfhaaDoor
open Go.RowKit Go.BigFrame
set_option maxHeartbeats 1000000
set_option maxRecDepth 100000
theorem run_build0m (w : World) : (Instr.buildSlice 50 0 #[]).run Tryd.prog w = .ok (.slice (some ⟨w.heap.size, 0, none⟩) 0 0) (w.alloc (.cells #[] 59)) := by kernel_rfl
theorem copyM {w : World} {v : Value} {l : List MsE} {a : Option Addr} {c b o : Nat} (h : MsgsAt w v l a c b o) (hl : l.length ≤ 1000) :
    ∃ v' W2, (Builtin.append_ #[50, 50] 50 #[.slice (some ⟨w.heap.size, 0, none⟩) 0 0, v]).run Tryd.prog (w.alloc (.cells #[] 59)) = .ok v' W2 ∧ W2.ownsRow w.heap.size 59 6 v' l.length (rowOf MsE.vals l) ∧ Below w.heap.size w W2 := by
  obtain ⟨i0, hi, hz0, hz1, hz2⟩ := info_parts info_ms
  obtain rfl := h.r.v
  obtain ⟨X, hX⟩ : ∃ X, w.heap.size = X := ⟨_, rfl⟩
  obtain ⟨W, hW⟩ : ∃ W : World, w.alloc (.cells #[] 59) = W := ⟨_, rfl⟩
  have hBW : Below w.heap.size w W := by rw [← hW]; exact (Below.refl _ _).alloc (Nat.le_refl _) _
  have own0 : W.ownsRow w.heap.size 59 6 (.slice (some ⟨X, 0, none⟩) 0 0) 0 [] := by
    rw [← hW, ← hX]
    exact World.ownsRow_made w #[] 0 (Nat.le_refl _) (by simp [maxLen]) (by simp)
  have hlen := rowOf_length (f := MsE.vals) MsE.len l
  have hr := h.below rfl hBW
  obtain ⟨v', W2, hrun, hown, hg, hat⟩ := run_append_src (P := Tryd.prog) W w.heap.size 50 50 59 i0 _ 6 72 Tryd.underlying50 hi hz0 hz1 hz2 rfl (by decide) _ 0 [] own0
    a l.length c (rowOf MsE.vals l) hlen (fun h0 => by
      refine ⟨_, (h.r.a h0).1, fun j u hj => ?_⟩
      have e : (⟨b, o, none⟩ : Addr).add j = ⟨b, o + j, none⟩ := by unfold Addr.add; split <;> simp_all
      rw [e]
      exact hr.r.r j u hj)
    (fun u hu => by
      unfold rowOf at hu
      obtain ⟨x, hx, hu⟩ := List.mem_flatMap.1 hu
      exact (h.ok x hx).one u hu) (by unfold maxLen; omega) (by omega) hBW.size
  refine ⟨v', W2, by rw [hX, hW]; exact hrun, by simpa using hown, ?_⟩
  refine ⟨hg.os.trans hBW.os, hg.tape.trans hBW.tape, hg.output.trans hBW.output, Nat.le_trans hBW.size hg.size, fun q hq => ?_⟩
  rw [hg.block q (Nat.lt_of_lt_of_le hq hBW.size) (by intro e; have e2 : q = X := Option.some.inj e; omega)]
  exact hBW.block q hq
theorem keeps_walk (me : Int) (l : List XE) (v : Value) (rest : List MsE) (v2 : Value) (a : Option Addr) (c b o : Nat) (a2 : Option Addr) (c2 b2 o2 : Nat) (w : World) (hT : TabOk w) (hr : RowAt XE.vals w v l a c b o) (hok : ∀ y ∈ l, y.Ok w) (hcl : ∀ y ∈ l, y.x.cnt.length * 4 ≤ 140737488351232) (hml : l.length ≤ 9223372036854775807)
    (hm : MsgsAt w v2 rest a2 c2 b2 o2) (hml2 : rest.length ≤ 9223372036854775807) :
    Calls Tryd.prog 4 #[.int .i64 me, v, v2] w fun e w' => e = .returned (.bool true) ∧ Below w.heap.size w w' := by
  have hv := hr.v
  subst hv
  have hv2 := hm.r.v
  subst hv2
  have HT := Lib.hid hT
  have HR := Lib.hid hr
  have HOKL := Lib.hid hok
  have HCL := Lib.hid hcl
  have HM := Lib.hid hm
  have HAW := Lib.hid (awake_any w hT)
  clear hT hr hok hcl hm
  go_enter Tryd.func4, Tryd.ntmps4
  go_wp2_with fail
  refine HAW.out.mono ?_
  rintro e w1 ⟨rfl, h1⟩
  have B1 := Lib.hid h1
  clear h1 HAW
  go_wp2_with fail
  refine (few_any w1 _ l a c b o (HR.out.below rfl B1.out) (fun y hy => (HOKL.out y hy).below rfl B1.out) hml).mono ?_
  rintro e w2 ⟨r, rfl, h2, hf1⟩
  have B2 := Lib.hid (bthen' B1.out h2)
  clear h2
  cases r with
  | false =>
    clear hf1
    go_wp2
    go_ret
    exact ⟨rfl, B2.out⟩
  | true =>
  have hl80 : l.length ≤ 80 := hf1 rfl
  clear hf1
  go_wp2_with fail
  refine (few3_any w2 _ rest a2 c2 b2 o2 (HM.out.below rfl B2.out) hml2).mono ?_
  rintro e w3 ⟨r, rfl, h3, hf2⟩
  have B3 := Lib.hid (bthen' B2.out h3)
  clear h3
  cases r with
  | false =>
    clear hf2
    go_wp2
    go_ret
    exact ⟨rfl, B3.out⟩
  | true =>
  clear hf2
  by_cases h40 : 40 < rest.length
  · have h40' : 40 < (rest.length : Int) := by omega
    go_wp2
    go_ret
    exact ⟨rfl, B3.out⟩
  · have h40' : (rest.length : Int) ≤ 40 := by omega
    have HL40 := Lib.hid (show rest.length ≤ 40 by omega)
    have HL80 := Lib.hid hl80
    clear hl80 h40 hml hml2
    have HE3 := Lib.hid (show ExsAt w3 (.slice a l.length c) l a c b o from ⟨HR.out.below rfl B3.out, fun y hy => (HOKL.out y hy).below rfl B3.out, by have := HL80.out; omega⟩)
    go_wp2_with fail
    refine (right_any HE3.out me).mono ?_
    rintro e w4 ⟨r, rfl, h4, hr⟩
    have B4 := Lib.hid (bthen' B3.out h4)
    have HE4 := Lib.hid (HE3.out.below rfl h4)
    clear h4 HE3
    cases r with
    | false =>
      clear hr
      go_wp2
      go_ret
      exact ⟨rfl, B4.out⟩
    | true =>
    have RN := Lib.hid (hr.1 rfl)
    clear hr
    go_wp2_with fail
    clear h40'
    refine (new_any me HE4.out HCL.out).mono ?_
    rintro e w5 ⟨h5, hp⟩
    have B5 := Lib.hid (bthen' B4.out h5)
    have HE5 := Lib.hid (HE4.out.below rfl h5)
    clear h5
    rcases hp with ⟨hpn, rfl⟩ | ⟨g, ys, hps, rfl, hpl, hg⟩
    · exact absurd RN.out (newL_none_iff hpn)
    · obtain ⟨m, hm⟩ := newL_ok hps
      have HNM := Lib.hid hm
      have HP := Lib.hid hpl
      clear hps hpl hg hm RN HE4
      have HM5 := Lib.hid (HM.out.below rfl B5.out)
      obtain ⟨mv, w6, hrun, hown, h6⟩ := copyM HM5.out (by have := HL40.out; omega)
      have HRUN := Lib.hid hrun
      have B6 := Lib.hid (bthen' B5.out h6)
      obtain ⟨na, nc, nb, hn1⟩ := keep_row hown (fun y hy => (HM5.out.ok y hy).below rfl h6)
      obtain rfl := hn1.r.v
      have HN := Lib.hid hn1
      have HP6 := Lib.hid (HP.out.below h6)
      have HE6 := Lib.hid (HE5.out.below rfl h6)
      clear hrun hown h6 hn1 HP HE5 HM5
      have he1 : (binOp .eql 26 (.pointer (some ⟨g, 0, none⟩)) (.pointer none)).run Tryd.prog w5 = .ok (.bool false) w5 := by kernel_rfl
      go_wp2_with (first
        | (guard_target = wpList _ _ _ (Oper.mk _ (Op.buildSlice _ _ _) _ _ _ none :: _) _ _; refine wpList_buildSlice rfl 50 0 _ rfl #[] (by kernel_rfl) _ _ (run_build0m w5) ?_; simp only [Act.put, List.setIfInBounds_toArray, List.set_cons_zero, List.set_cons_succ])
        | (guard_target = wpList _ _ _ (Oper.mk _ (Op.call _) _ _ _ none :: _) _ _; refine Lib.wpList_append_run _ rfl _ _ _ _ rfl _ _ rfl rfl _ _ HRUN.out ?_; simp only [Act.put, List.setIfInBounds_toArray, List.set_cons_zero, List.set_cons_succ]))
      refine (keep_any HP6.out HN.out (by have := HL40.out; omega)).mono ?_
      rintro e w7 ⟨kv, kf, rfl, hkf, hkv, h7⟩
      have B7 := Lib.hid (bthen' B6.out h7)
      have HE7 := Lib.hid (HE6.out.below rfl h7)
      have HN7 := Lib.hid (HN.out.below rfl h7)
      have HM7 := Lib.hid (HM.out.below rfl B7.out)
      obtain ⟨X, hX⟩ : ∃ X, exs ys = X := ⟨_, rfl⟩
      rw [hX] at hkf hkv
      have HX := Lib.hid hX
      have KF := Lib.hid hkf
      obtain ⟨ks, hks⟩ : ∃ ks, rest.filter (fun y => keepM X kf y.m) = ks := ⟨_, rfl⟩
      have HKS := Lib.hid hks
      have hkl : ks.length ≤ rest.length := by rw [← hks]; exact List.length_filter_le _ _
      have HKL := Lib.hid hkl
      rw [hks] at hkv
      obtain ⟨ka, kc, kb, hk1⟩ := keep_row hkv (fun y hy => by rw [← hks] at hy; exact HM7.out.ok y (List.mem_filter.1 hy).1)
      obtain rfl := hk1.r.v
      have KS := Lib.hid hk1
      clear h7 hkf hkv hks hk1 hkl hX HE6 HN HP6
      go_wp2_with fail
      refine (rcomp_any HE7.out me HNM.out).mono ?_
      rintro e w8 ⟨zv, rfl, hzv, h8⟩
      have B8 := Lib.hid (bthen' B7.out h8)
      have HE8 := Lib.hid (HE7.out.below rfl h8)
      have HN8 := Lib.hid (HN7.out.below rfl h8)
      have KS8 := Lib.hid (KS.out.below rfl h8)
      have HM8 := Lib.hid (HM.out.below rfl B8.out)
      obtain ⟨zs, hzs⟩ : ∃ zs, l.filter (fun z => sameOld z.x m) = zs := ⟨_, rfl⟩
      rw [hzs] at hzv
      have HZX := Lib.hid (show exs zs = X by rw [← hzs, exs_filter, ← HNM.out.la]; exact HX.out)
      have hzok : ∀ y ∈ zs, y.Ok w8 := fun y hy => HE8.out.ok y (by rw [← hzs] at hy; exact (List.mem_filter.1 hy).1)
      have hzl : zs.length ≤ 1000 := by rw [← hzs]; exact Nat.le_trans (List.length_filter_le _ _) HE8.out.len
      obtain ⟨za, zc, zb, hzr, _⟩ := RowAt.own hzv rfl XE.len
      have ZE := Lib.hid (show ExsAt w8 zv zs za zc zb 0 from ⟨hzr, hzok, hzl⟩)
      have hzvv := hzr.v
      subst hzvv
      clear h8 hzs hzok hzl hzr hzv HNM HE8 HN7 KS HM7 HE7
      go_wp2_with fail
      refine (rkeep_any ZE.out HM8.out (by have := HL40.out; omega) (kf := kf) (by rw [HZX.out]; exact KF.out)).mono ?_
      rintro e w9 ⟨rv, rfl, hrv, h9⟩
      have B9 := Lib.hid (bthen' B8.out h9)
      rw [HZX.out, HKS.out] at hrv
      obtain ⟨ra, rc, rb, hr1⟩ := keep_row hrv (fun y hy => by rw [← HKS.out] at hy; exact (HM8.out.ok y (List.mem_filter.1 hy).1).below rfl h9)
      obtain rfl := hr1.r.v
      have RS := Lib.hid hr1
      have HN9 := Lib.hid (HN8.out.below rfl h9)
      have KS9 := Lib.hid (KS8.out.below rfl h9)
      clear h9 hrv hr1 ZE HM8 HN8 KS8
      go_wp2_with fail
      refine (all_any KS9.out RS.out (by have := HKL.out; have := HL40.out; omega) (by have := HKL.out; have := HL40.out; omega)).mono ?_
      rintro e w10 ⟨r, rfl, h10, hall⟩
      obtain rfl := hall rfl
      have B10 := Lib.hid (bthen' B9.out h10)
      have HN10 := Lib.hid (HN9.out.below rfl h10)
      have HM10 := Lib.hid (HM.out.below rfl B10.out)
      clear h10 hall HN9 KS9 RS
      go_wp2_with fail
      refine (all_any HN10.out HM10.out (by have := HL40.out; omega) (by have := HL40.out; omega)).mono ?_
      rintro e w11 ⟨r, rfl, h11, hall⟩
      obtain rfl := hall rfl
      have B11 := Lib.hid (bthen' B10.out h11)
      clear h11 hall
      go_wp2
      go_ret
      exact ⟨rfl, B11.out⟩
end Go.Proofs.YtagelhbknbpfhaaDoor
