/- Abs, part 10: all operations but calls in one theorem. -/
import Derived.Test.YtlkphnhlibpngaaGreatAbsSound6
set_option linter.unusedVariables false
set_option linter.unusedSimpArgs false
namespace Go.Proofs.YtlkphnhlibpngaaGreat.Abs
open Go

section
variable {P : Program} {o : Oper} {a : Act} {S : Setup} {L : Env} {x : AV} {m' : Mem} {ro : ROp}

theorem all_isSome {fs : Array Field} (h : (fs.toList.all fun f => (P.info? f.type).isSome) = true) : (fs.toList.all fun f => (P.info? f.type).isSome) = true := h

set_option maxHeartbeats 1000000 in
theorem aop_sound (hr : rop P o.op = some ro) (hS : S.WF) (hg : ∀ z ∈ ro.operands, Good S L a z) (h : aop L S.m ro = some (x, m')) : Did P o a.eval S x m' := by
  unfold rop at hr
  split at hr
  · rename_i z ho
    obtain rfl := Option.some.inj hr
    exact sound_mov (.inl ho) hS (hg z (by simp [ROp.operands])) h
  · rename_i z ho
    obtain rfl := Option.some.inj hr
    exact sound_mov (.inr ho) hS (hg z (by simp [ROp.operands])) h
  · rename_i c z1 z2 ho
    obtain rfl := Option.some.inj hr
    exact sound_pick ho hS (hg c (by simp [ROp.operands])) (hg z1 (by simp [ROp.operands])) (hg z2 (by simp [ROp.operands])) h
  · -- alloc
    rename_i t ho
    split at hr
    · rename_i z hz
      simp only [Option.bind_eq_some_iff] at hz
      obtain ⟨i, hi, hz⟩ := hz
      split at hr
      · obtain rfl := Option.some.inj hr
        exact sound_new ho hi hz hS h
      · simp at hr
    · simp at hr
  · -- box
    rename_i t z ho
    obtain rfl := Option.some.inj hr
    exact sound_box ho hS (hg z (by simp [ROp.operands])) h
  · -- build
    rename_i t parts ho
    split at hr
    · rename_i fs z hu hz
      simp only [Option.bind_eq_some_iff] at hz
      obtain ⟨i, hi, hz⟩ := hz
      split at hr
      · rename_i hc
        simp only [Bool.and_eq_true] at hc
        simp only [Option.map_eq_some_iff] at hr
        obtain ⟨ps, hp, rfl⟩ := hr
        exact sound_build ho hu hi hz hc.2 hp hS (fun y hy => hg y hy) h
      · simp at hr
    · simp at hr
  · -- buildSlice
    rename_i t len parts ho
    split at hr
    · rename_i e hu
      split at hr
      · rename_i i hi
        split at hr
        · rename_i z hz
          split at hr
          · rename_i hc
            obtain ⟨c1, c2, c3, c4, c5⟩ := hc
            obtain rfl := Option.some.inj hr
            exact sound_bsl ho hu hi hz c1 c2 c3 c4 c5 hS (fun y hy => hg y hy) h
          · simp at hr
        · simp at hr
      · simp at hr
    · simp at hr
  · -- load
    rename_i t z ho
    simp only [Option.map_eq_some_iff] at hr
    obtain ⟨n, hn, rfl⟩ := hr
    exact sound_ld ho hn hS (hg z (by simp [ROp.operands])) h
  · -- store
    rename_i t z1 z2 ho
    simp only [Option.map_eq_some_iff] at hr
    obtain ⟨i, hi, rfl⟩ := hr
    exact sound_st ho hi hS (hg z1 (by simp [ROp.operands])) (hg z2 (by simp [ROp.operands])) h
  · -- nilCheck
    rename_i z ho
    obtain rfl := Option.some.inj hr
    exact sound_nilc ho hS (hg z (by simp [ROp.operands])) h
  · -- slice against nil
    rename_i op t z t' ho
    split at hr
    · rename_i e hu
      obtain rfl := Option.some.inj hr
      exact sound_snil (neg := false) (by simpa using ho) hu hS (hg z (by simp [ROp.operands])) h
    · rename_i e hu
      obtain rfl := Option.some.inj hr
      exact sound_snil (neg := true) (by simpa using ho) hu hS (hg z (by simp [ROp.operands])) h
    · simp at hr
  · rename_i op t z1 z2 t' hnc ho
    obtain rfl := Option.some.inj hr
    exact sound_bin ho hS (hg z1 (by simp [ROp.operands])) (hg z2 (by simp [ROp.operands])) h
  · rename_i op t z ho
    obtain rfl := Option.some.inj hr
    exact sound_un ho hS (hg z (by simp [ROp.operands])) h
  · -- convert
    rename_i s t z ho
    split at hr
    · rename_i d k hs ht
      obtain rfl := Option.some.inj hr
      exact sound_cvt ho hs ht hS (hg z (by simp [ROp.operands])) h
    · simp at hr
  · -- makeFunc
    rename_i f first caps ho
    split at hr
    · rename_i hf
      obtain rfl := Option.some.inj hr
      exact sound_mkf ho hf hS (fun z hz => hg z (by simpa [ROp.operands] using hz)) h
    · simp at hr
  · -- field
    rename_i t z k ho
    split at hr
    · rename_i fs hu
      split at hr
      · rename_i f hf
        simp only [Option.map_eq_some_iff] at hr
        obtain ⟨n, hn, rfl⟩ := hr
        exact sound_fld ho hu hf hn hS (hg z (by simp [ROp.operands])) h
      · simp at hr
    · simp at hr
  · -- fieldAddr
    rename_i t z k ho
    split at hr
    · rename_i fs hu
      split at hr
      · rename_i f hf
        split at hr
        · rename_i i hi
          split at hr
          · simp at hr
          · rename_i hsz
            obtain rfl := Option.some.inj hr
            exact sound_fad ho hu hf hi hsz hS (hg z (by simp [ROp.operands])) h
        · simp at hr
      · simp at hr
    · simp at hr
  · -- indexAddr
    rename_i t z1 z2 ho
    split at hr
    · rename_i e hu
      simp only [Option.map_eq_some_iff] at hr
      obtain ⟨i, hi, rfl⟩ := hr
      exact sound_iad ho hu hi hS (hg z1 (by simp [ROp.operands])) (hg z2 (by simp [ROp.operands])) h
    · simp at hr
  · -- slice
    rename_i t z lo hi' ho
    split at hr
    · rename_i e hu
      simp only [Option.map_eq_some_iff] at hr
      obtain ⟨i, hi, rfl⟩ := hr
      exact sound_slc ho hu hi hS (hg z (by simp [ROp.operands])) (fun q hq => hg q (by simp [ROp.operands, hq])) (fun q hq => hg q (by simp [ROp.operands, hq])) h
    · simp at hr
  · -- extract
    rename_i z i ho
    obtain rfl := Option.some.inj hr
    exact sound_ext ho hS (hg z (by simp [ROp.operands])) h
  · -- len
    rename_i args ats ho
    split at hr
    · rename_i z t ha ht
      split at hr
      · rename_i e hu
        obtain rfl := Option.some.inj hr
        exact sound_len ho ha ht hu hS (hg z (by simp [ROp.operands])) h
      · rename_i hu
        obtain rfl := Option.some.inj hr
        exact sound_slen ho ha ht hu hS (hg z (by simp [ROp.operands])) h
      · simp at hr
    · simp at hr
  · -- min
    rename_i args ats ho
    split at hr
    · rename_i z1 z2 ha
      obtain rfl := Option.some.inj hr
      exact sound_mnx (mx := false) (by simpa using ho) ha hS (hg z1 (by simp [ROp.operands])) (hg z2 (by simp [ROp.operands])) h
    · simp at hr
  · -- max
    rename_i args ats ho
    split at hr
    · rename_i z1 z2 ha
      obtain rfl := Option.some.inj hr
      exact sound_mnx (mx := true) (by simpa using ho) ha hS (hg z1 (by simp [ROp.operands])) (hg z2 (by simp [ROp.operands])) h
    · simp at hr
  · -- append
    rename_i args ats ho
    split at hr
    · rename_i z1 z2 t u ha hats
      split at hr
      · rename_i e ht
        split at hr
        · rename_i i hi
          split at hr
          · rename_i z hz
            split at hr
            · rename_i hc
              obtain ⟨rfl, c2, c3⟩ := hc
              obtain rfl := Option.some.inj hr
              exact sound_app ho ha hats ht hi hz c2 c3 hS (hg z1 (by simp [ROp.operands])) (hg z2 (by simp [ROp.operands])) h
            · simp at hr
          · simp at hr
        · simp at hr
      · simp at hr
    · simp at hr
  · split at hr
    · obtain rfl := Option.some.inj hr
      simp [aop] at h
    · simp at hr
  · obtain rfl := Option.some.inj hr
    simp [aop] at h
  · simp at hr
end
end Go.Proofs.YtlkphnhlibpngaaGreat.Abs
