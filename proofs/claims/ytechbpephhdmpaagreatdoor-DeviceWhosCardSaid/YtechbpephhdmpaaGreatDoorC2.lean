/-
  THE LAW'S RUN, third part: what is known (sha.Sum at one text; the table of crc; the chapter's examples).
-/
import Derived.Test.YtechbpephhdmpaaGreatDoorC1
import Derived.Test.YtechbpephhdmpaaGreatDoorEsha
import Derived.Test.YtechbpephhdmpaaGreatDoorEtab
import Derived.Test.YtechbpephhdmpaaGreatDoorEawake
namespace Go.Proofs.YtechbpephhdmpaaGreatDoor
open Go Go.Sx

theorem body100 : hasBody Tryz.prog 100 = true := by kernel_rfl
theorem body345 : hasBody Tryz.prog 345 = true := by kernel_rfl
theorem body7 : hasBody Tryz.prog 7 = true := by kernel_rfl
theorem body3 : hasBody Tryz.prog 3 = true := by kernel_rfl

theorem isTab_list {r : RC} (h : isTab r = true) : ∃ h', r.list = some [(undef', h')] ∧ h'.get 0 = .row 368 [.ptr 1 0] false ∧ h'.get 1 = .row 380 post false := by
  cases r with
  | bad m => cases h
  | many l => cases h
  | one u h' =>
    have h2 : andb (sameV u undef') (andb (sameO (h'.get 0) (.row 368 [.ptr 1 0] false)) (sameO (h'.get 1) (.row 380 post false))) = true := h
    rw [andb_eq, andb_eq, Bool.and_eq_true, Bool.and_eq_true] at h2
    exact ⟨h', by rw [show u = undef' from sameV_true h2.1]; rfl, sameO_true h2.2.1, sameO_true h2.2.2⟩

theorem numbers_once : Numbers once := by
  intro x hx
  simp only [once, List.mem_cons, List.not_mem_nil, or_false] at hx
  rcases hx with rfl | rfl | rfl <;> exact ⟨_, _, rfl⟩
theorem numbers_pre : Numbers pre := by
  intro x hx
  rcases List.mem_append.1 hx with h | h
  · exact numbers_once x h
  · exact ⟨_, _, List.eq_of_mem_replicate h⟩
theorem numbers_post : Numbers post := by
  intro x hx
  rcases List.mem_append.1 hx with h | h
  · exact numbers_once x h
  · obtain ⟨n, _, rfl⟩ := List.mem_map.1 h
    exact ⟨_, _, rfl⟩

theorem ext1 : ExtOk Tryz.prog (lk ext1L) := by
  intro f x h
  have hm := lk_mem h
  rw [ext1L] at hm
  rcases List.mem_cons.1 hm with h1 | hm
  · cases h1
    exact ⟨body100, fun w k => closed ext0 body100 (by decide) evSha (argv := #[strV [120]]) ⟨rfl, trivial⟩ rel_str w k⟩
  rcases List.mem_cons.1 hm with h1 | hm2
  · cases h1
    refine ⟨body345, numbers_pre, numbers_post, ?_⟩
    obtain ⟨h', g1, g2, g3⟩ := isTab_list evTab
    exact ⟨[(undef', h')], fun p hp => by
      have : p = (undef', h') := by simpa using hp
      subst this
      exact ⟨rfl, g2, g3⟩, fun argv μ w ha hr R hp k => contract ext0 body345 g1 ha hr hp k⟩
  · refine ext0 f x ?_
    have e : lk ext1L f = (Bool.casesOn (Nat.beq 100 f) (Bool.casesOn (Nat.beq 345 f) (lk ext0L f) (some (.tab 368 380 pre post))) (some (.known [120] shaX)) : Option X) := rfl
    rw [e] at h
    cases h1 : Nat.beq 100 f with
    | true =>
      rw [h1] at h
      have h2 : some (X.known [120] shaX) = some x := h
      cases h2
      exfalso
      simp [ext0L] at hm2
    | false =>
      rw [h1] at h
      cases h3 : Nat.beq 345 f with
      | true =>
        rw [h3] at h
        have h2 : some (X.tab 368 380 pre post) = some x := h
        cases h2
        exfalso
        simp [ext0L] at hm2
      | false => rw [h3] at h; exact h

theorem ext2 : ExtOk Tryz.prog (lk ext2L) := by
  intro f x h
  have e : lk ext2L f = (Bool.casesOn (Nat.beq 7 f) (lk ext1L f) (some .yes) : Option X) := rfl
  rw [e] at h
  cases h1 : Nat.beq 7 f with
  | true =>
    rw [h1] at h
    have h2 : some X.yes = some x := h
    cases h2
    rw [Nat.beq_eq] at h1
    subst h1
    exact ⟨body7, fun w k => closed ext1 body7 (by decide) evAwake (argv := #[]) trivial rel_true w k⟩
  | false => rw [h1] at h; exact ext1 f x h

end Go.Proofs.YtechbpephhdmpaaGreatDoor
