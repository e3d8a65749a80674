/-
  Go's pdqsort never holds an element against itself: on a row without repetition two orders that agree at different elements sort alike. No program in it.
-/
import Derived.Sort.Lot0
namespace Go.Sort
variable {α : Type} [Inhabited α] {lt lt' : α → α → Bool}
/-- Two orders that agree at a row's different elements, the row without repetition. -/
structure AgP (lt lt' : α → α → Bool) (d : Array α) : Prop where
  nd : d.toList.Nodup
  ag : ∀ x ∈ d.toList, ∀ y ∈ d.toList, x ≠ y → lt x y = lt' x y
theorem get_mem {d : Array α} {i : Nat} (h : i < d.size) : d[i]! ∈ d.toList := by
  rw [getElem!_pos d i h]
  exact Array.mem_toList_iff.2 (Array.getElem_mem h)
theorem AgP.at {d : Array α} (h : AgP lt lt' d) {i j : Nat} (hi : i < d.size) (hj : j < d.size) (hn : i ≠ j) : lt d[i]! d[j]! = lt' d[i]! d[j]! := by
  refine h.ag _ (get_mem hi) _ (get_mem hj) fun e => hn ?_
  rw [getElem!_pos d i hi, getElem!_pos d j hj] at e
  have h1 : d.toList[i]'(by simpa using hi) = d.toList[j]'(by simpa using hj) := by simpa using e
  exact (List.getElem_inj h.nd).1 h1
omit [Inhabited α] in
theorem AgP.perm {d d' : Array α} (h : AgP lt lt' d) (hp : d'.toList.Perm d.toList) : AgP lt lt' d' :=
  ⟨hp.nodup_iff.2 h.nd, fun x hx y hy => h.ag x (hp.mem_iff.1 hx) y (hp.mem_iff.1 hy)⟩
theorem AgP.permIn {d d' : Array α} {a b : Nat} (h : AgP lt lt' d) (hp : PermIn a b d d') (hb : b ≤ d.size) : AgP lt lt' d' := by
  have h2 := (permIn_mono d d' a b 0 d.size (Nat.zero_le _) hb (Nat.le_refl _) hp).2.2
  have h3 := hp.1
  refine h.perm ?_
  have e1 : d.extract 0 d.size = d := by simp
  have e2 : d'.extract 0 d.size = d' := by rw [← h3]; simp
  rwa [e1, e2] at h2
theorem AgP.swp {d : Array α} (h : AgP lt lt' d) {i j : Nat} (hi : i < d.size) (hj : j < d.size) : AgP lt lt' (swp d i j) :=
  h.permIn (swp_permIn d 0 d.size i j (Nat.zero_le _) hi (Nat.zero_le _) hj (Nat.le_refl _)) (Nat.le_refl _)
/-! Insertion sort. -/
theorem ag_insInner (a : Nat) : ∀ (j : Nat) (d : Array α), AgP lt lt' d → j < d.size → insInner lt a j d = insInner lt' a j d ∧ AgP lt lt' (insInner lt a j d) ∧ (insInner lt a j d).size = d.size
  | 0, d, h, _ => ⟨rfl, h, rfl⟩
  | j + 1, d, h, hj => by
    unfold insInner
    rw [h.at hj (show j < d.size by omega) (by omega)]
    split
    · have h2 := ag_insInner a j (swp d (j + 1) j) (h.swp hj (by omega)) (by rw [size_swp]; omega)
      rw [size_swp] at h2
      exact h2
    · exact ⟨rfl, h, rfl⟩
theorem ag_insOuter (a b : Nat) : ∀ (n i : Nat) (d : Array α), b - i ≤ n → AgP lt lt' d → b ≤ d.size → insOuter lt a b i d = insOuter lt' a b i d := by
  intro n
  induction n with
  | zero =>
    intro i d hn h hb
    rw [insOuter, insOuter.eq_def (lt := lt'), if_neg (by omega), if_neg (by omega)]
  | succ n ih =>
    intro i d hn h hb
    rw [insOuter]
    rw [insOuter.eq_def (lt := lt')]
    split
    · obtain ⟨e, h2, hs⟩ := ag_insInner (lt := lt) (lt' := lt') a i d h (by omega)
      rw [← e]
      exact ih (i + 1) _ (by omega) h2 (by rw [hs]; exact hb)
    · rfl
theorem ag_insertionSort {d : Array α} {a b : Nat} (h : AgP lt lt' d) (hb : b ≤ d.size) : insertionSort lt d a b = insertionSort lt' d a b := ag_insOuter a b _ _ d (Nat.le_refl _) h hb
/-! Heap sort. -/
theorem ag_siftDown (hi first : Nat) : ∀ (n root : Nat) (d : Array α), hi - root ≤ n → AgP lt lt' d → first + hi ≤ d.size →
    siftDown lt hi first root d = siftDown lt' hi first root d ∧ AgP lt lt' (siftDown lt hi first root d) ∧ (siftDown lt hi first root d).size = d.size := by
  intro n
  induction n with
  | zero =>
    intro root d hn h hs
    rw [siftDown, siftDown.eq_def (lt := lt'), dif_pos (by omega), dif_pos (by omega)]
    exact ⟨rfl, h, rfl⟩
  | succ n ih =>
    intro root d hn h hs
    rw [siftDown, siftDown.eq_def (lt := lt')]
    by_cases h1 : 2 * root + 1 ≥ hi
    · rw [dif_pos h1, dif_pos h1]
      exact ⟨rfl, h, rfl⟩
    rw [dif_neg h1, dif_neg h1]
    have c1 : (decide (2 * root + 1 + 1 < hi) && lt d[first + (2 * root + 1)]! d[first + (2 * root + 1) + 1]!) = (decide (2 * root + 1 + 1 < hi) && lt' d[first + (2 * root + 1)]! d[first + (2 * root + 1) + 1]!) := by
      by_cases h2 : 2 * root + 1 + 1 < hi
      · rw [h.at (show first + (2 * root + 1) < d.size by omega) (show first + (2 * root + 1) + 1 < d.size by omega) (by omega)]
      · simp [h2]
    rw [c1]
    by_cases h3 : (decide (2 * root + 1 + 1 < hi) && lt' d[first + (2 * root + 1)]! d[first + (2 * root + 1) + 1]!) = true
    · rw [if_pos h3, if_pos h3]
      have h2 : 2 * root + 1 + 1 < hi := of_decide_eq_true (Bool.and_eq_true _ _ ▸ h3).1
      rw [h.at (show first + root < d.size by omega) (show first + (2 * root + 2) < d.size by omega) (by omega)]
      split
      · exact ⟨rfl, h, rfl⟩
      · have := ih (2 * root + 2) (swp d (first + root) (first + (2 * root + 2))) (by omega) (h.swp (by omega) (by omega)) (by rw [size_swp]; exact hs)
        rw [size_swp] at this
        exact this
    · rw [if_neg h3, if_neg h3]
      rw [h.at (show first + root < d.size by omega) (show first + (2 * root + 1) < d.size by omega) (by omega)]
      split
      · exact ⟨rfl, h, rfl⟩
      · have := ih (2 * root + 1) (swp d (first + root) (first + (2 * root + 1))) (by omega) (h.swp (by omega) (by omega)) (by rw [size_swp]; exact hs)
        rw [size_swp] at this
        exact this
theorem ag_heapBuild (hi first : Nat) : ∀ (k : Nat) (d : Array α), AgP lt lt' d → first + hi ≤ d.size → heapBuild lt hi first k d = heapBuild lt' hi first k d ∧ AgP lt lt' (heapBuild lt hi first k d) ∧ (heapBuild lt hi first k d).size = d.size
  | 0, d, h, _ => ⟨rfl, h, rfl⟩
  | k + 1, d, h, hs => by
    obtain ⟨e, h2, s2⟩ := ag_siftDown hi first _ k d (Nat.le_refl _) h hs
    unfold heapBuild
    rw [← e]
    have := ag_heapBuild hi first k _ h2 (by rw [s2]; exact hs)
    rw [s2] at this
    exact this
theorem ag_heapPop (first : Nat) : ∀ (k : Nat) (d : Array α), AgP lt lt' d → first + k ≤ d.size → heapPop lt first k d = heapPop lt' first k d
  | 0, d, h, _ => rfl
  | k + 1, d, h, hs => by
    have h1 := h.swp (show first < d.size by omega) (show first + k < d.size by omega)
    obtain ⟨e, h2, s2⟩ := ag_siftDown k first _ 0 (swp d first (first + k)) (Nat.le_refl _) h1 (by rw [size_swp]; omega)
    unfold heapPop
    rw [← e]
    exact ag_heapPop first k _ h2 (by rw [s2, size_swp]; omega)
theorem ag_heapSort {d : Array α} {a b : Nat} (h : AgP lt lt' d) (hab : a ≤ b) (hb : b ≤ d.size) : heapSort lt d a b = heapSort lt' d a b := by
  obtain ⟨e, h2, s2⟩ := ag_heapBuild (lt := lt) (lt' := lt') (b - a) a ((b - a - 1) / 2 + 1) d h (by omega)
  unfold heapSort
  rw [← e]
  exact ag_heapPop a (b - a) _ h2 (by rw [s2]; omega)
/-! The scans, the partitions. -/
theorem scanUp_congr {p p' : α → Bool} (d : Array α) (j : Nat) : ∀ (n i : Nat), j + 1 - i ≤ n → (∀ t, i ≤ t → t ≤ j → p d[t]! = p' d[t]!) → scanUp p d j i = scanUp p' d j i ∧ i ≤ scanUp p d j i := by
  intro n
  induction n with
  | zero =>
    intro i hn h
    rw [scanUp, scanUp.eq_def (p := p')]
    have : ¬ i ≤ j := by omega
    simp [this]
  | succ n ih =>
    intro i hn h
    rw [scanUp, scanUp.eq_def (p := p')]
    by_cases h1 : i ≤ j
    · rw [h i (Nat.le_refl _) h1]
      split
      · have := ih (i + 1) (by omega) fun t h1 h2 => h t (by omega) h2
        exact ⟨this.1, by omega⟩
      · exact ⟨rfl, Nat.le_refl _⟩
    · simp [h1]
theorem scanDown_congr {p p' : α → Bool} (d : Array α) (i : Nat) : ∀ (j : Nat), (∀ t, i ≤ t → t ≤ j → p d[t]! = p' d[t]!) → scanDown p d i j = scanDown p' d i j ∧ scanDown p d i j ≤ j
  | 0, _ => ⟨rfl, Nat.le_refl _⟩
  | j + 1, h => by
    unfold scanDown
    by_cases h1 : i ≤ j + 1
    · rw [h (j + 1) h1 (Nat.le_refl _)]
      split
      · have := scanDown_congr d i j fun t h1 h2 => h t h1 (by omega)
        exact ⟨this.1, by omega⟩
      · exact ⟨rfl, Nat.le_refl _⟩
    · simp [h1]
theorem ag_partLoop (a : Nat) : ∀ (n i j : Nat) (d : Array α), j + 1 - i ≤ n → AgP lt lt' d → a < i → a < d.size → j < d.size → partLoop lt a i j d = partLoop lt' a i j d := by
  intro n
  induction n with
  | zero =>
    intro i j d hn h ha has hj
    obtain ⟨e1, g1⟩ := scanUp_congr (p := fun x => lt x d[a]!) (p' := fun x => lt' x d[a]!) d j _ i (Nat.le_refl _) fun t h1 h2 => h.at (by omega) has (by omega)
    obtain ⟨e2, g2⟩ := scanDown_congr (p := fun x => !lt x d[a]!) (p' := fun x => !lt' x d[a]!) d (scanUp (fun x => lt x d[a]!) d j i) j fun t h1 h2 => congrArg (!·) (h.at (by omega) has (by omega))
    rw [partLoop, partLoop.eq_def (lt := lt')]
    dsimp only
    rw [← e1, ← e2, if_pos (by omega), if_pos (by omega)]
  | succ n ih =>
    intro i j d hn h ha has hj
    obtain ⟨e1, g1⟩ := scanUp_congr (p := fun x => lt x d[a]!) (p' := fun x => lt' x d[a]!) d j _ i (Nat.le_refl _) fun t h1 h2 => h.at (by omega) has (by omega)
    obtain ⟨e2, g2⟩ := scanDown_congr (p := fun x => !lt x d[a]!) (p' := fun x => !lt' x d[a]!) d (scanUp (fun x => lt x d[a]!) d j i) j fun t h1 h2 => congrArg (!·) (h.at (by omega) has (by omega))
    rw [partLoop, partLoop.eq_def (lt := lt')]
    dsimp only
    rw [← e1, ← e2]
    generalize scanUp (fun x => lt x d[a]!) d j i = i2 at g1 g2 ⊢
    generalize scanDown (fun x => !lt x d[a]!) d i2 j = j2 at g2 ⊢
    split
    · rfl
    · rename_i h3
      split
      · exact ih (i2 + 1) (j2 - 1) _ (by omega) (h.swp (by omega) (by omega)) (by omega) (by rw [size_swp]; exact has) (by rw [size_swp]; omega)
      · rfl
theorem ag_partition {d : Array α} {a b pivot : Nat} (h : AgP lt lt' d) (h1 : a ≤ pivot) (h2 : pivot < b) (hb : b ≤ d.size) : partition lt d a b pivot = partition lt' d a b pivot := by
  have h0 := h.swp (show a < d.size by omega) (show pivot < d.size by omega)
  have s0 := size_swp d a pivot
  unfold partition
  dsimp only
  generalize swp d a pivot = e at h0 s0
  obtain ⟨e1, g1⟩ := scanUp_congr (p := fun x => lt x e[a]!) (p' := fun x => lt' x e[a]!) e (b - 1) _ (a + 1) (Nat.le_refl _) fun t h1 h2 => h0.at (by omega) (by omega) (by omega)
  obtain ⟨e2, g2⟩ := scanDown_congr (p := fun x => !lt x e[a]!) (p' := fun x => !lt' x e[a]!) e (scanUp (fun x => lt x e[a]!) e (b - 1) (a + 1)) (b - 1) fun t h1 h2 => congrArg (!·) (h0.at (by omega) (by omega) (by omega))
  rw [← e1, ← e2]
  generalize scanUp (fun x => lt x e[a]!) e (b - 1) (a + 1) = i2 at g1 g2 ⊢
  generalize scanDown (fun x => !lt x e[a]!) e i2 (b - 1) = j2 at g2 ⊢
  split
  · rfl
  · rw [ag_partLoop a _ (i2 + 1) (j2 - 1) (swp e i2 j2) (Nat.le_refl _) (h0.swp (by omega) (by omega)) (by omega) (by rw [size_swp]; omega) (by rw [size_swp]; omega)]
theorem ag_partEqLoop (a : Nat) : ∀ (n i j : Nat) (d : Array α), j + 1 - i ≤ n → AgP lt lt' d → a < i → a < d.size → j < d.size → partEqLoop lt a i j d = partEqLoop lt' a i j d := by
  intro n
  induction n with
  | zero =>
    intro i j d hn h ha has hj
    obtain ⟨e1, g1⟩ := scanUp_congr (p := fun x => !lt d[a]! x) (p' := fun x => !lt' d[a]! x) d j _ i (Nat.le_refl _) fun t h1 h2 => congrArg (!·) (h.at has (by omega) (by omega))
    obtain ⟨e2, g2⟩ := scanDown_congr (p := fun x => lt d[a]! x) (p' := fun x => lt' d[a]! x) d (scanUp (fun x => !lt d[a]! x) d j i) j fun t h1 h2 => h.at has (by omega) (by omega)
    rw [partEqLoop, partEqLoop.eq_def (lt := lt')]
    dsimp only
    rw [← e1, ← e2, if_pos (by omega), if_pos (by omega)]
  | succ n ih =>
    intro i j d hn h ha has hj
    obtain ⟨e1, g1⟩ := scanUp_congr (p := fun x => !lt d[a]! x) (p' := fun x => !lt' d[a]! x) d j _ i (Nat.le_refl _) fun t h1 h2 => congrArg (!·) (h.at has (by omega) (by omega))
    obtain ⟨e2, g2⟩ := scanDown_congr (p := fun x => lt d[a]! x) (p' := fun x => lt' d[a]! x) d (scanUp (fun x => !lt d[a]! x) d j i) j fun t h1 h2 => h.at has (by omega) (by omega)
    rw [partEqLoop, partEqLoop.eq_def (lt := lt')]
    dsimp only
    rw [← e1, ← e2]
    generalize scanUp (fun x => !lt d[a]! x) d j i = i2 at g1 g2 ⊢
    generalize scanDown (fun x => lt d[a]! x) d i2 j = j2 at g2 ⊢
    split
    · rfl
    · rename_i h3
      split
      · exact ih (i2 + 1) (j2 - 1) _ (by omega) (h.swp (by omega) (by omega)) (by omega) (by rw [size_swp]; exact has) (by rw [size_swp]; omega)
      · rfl
theorem ag_partitionEqual {d : Array α} {a b pivot : Nat} (h : AgP lt lt' d) (h1 : a ≤ pivot) (h2 : pivot < b) (hb : b ≤ d.size) : partitionEqual lt d a b pivot = partitionEqual lt' d a b pivot :=
  ag_partEqLoop a _ (a + 1) (b - 1) (swp d a pivot) (Nat.le_refl _) (h.swp (by omega) (by omega)) (by omega) (by rw [size_swp]; omega) (by rw [size_swp]; omega)
/-! The partial insertion sort. -/
theorem ag_scanSorted (d : Array α) (b : Nat) (h : AgP lt lt' d) (hb : b ≤ d.size) : ∀ (n i : Nat), b - i ≤ n → 1 ≤ i → i ≤ b → scanSorted lt d b i = scanSorted lt' d b i ∧ i ≤ scanSorted lt d b i ∧ scanSorted lt d b i ≤ b := by
  intro n
  induction n with
  | zero =>
    intro i hn h1 h2
    rw [scanSorted, scanSorted.eq_def (lt := lt')]
    have : ¬ i < b := by omega
    simp [this, h2]
  | succ n ih =>
    intro i hn h1 h2
    rw [scanSorted, scanSorted.eq_def (lt := lt')]
    by_cases h3 : i < b
    · rw [h.at (show i < d.size by omega) (show i - 1 < d.size by omega) (by omega)]
      split
      · have := ih (i + 1) (by omega) (by omega) (by omega)
        exact ⟨this.1, by omega, this.2.2⟩
      · exact ⟨rfl, Nat.le_refl _, h2⟩
    · simp [h3, h2]
theorem ag_shiftDown : ∀ (j : Nat) (d : Array α), AgP lt lt' d → j < d.size → shiftDown lt j d = shiftDown lt' j d ∧ AgP lt lt' (shiftDown lt j d) ∧ (shiftDown lt j d).size = d.size
  | 0, d, h, _ => ⟨rfl, h, rfl⟩
  | j + 1, d, h, hj => by
    unfold shiftDown
    rw [h.at hj (show j < d.size by omega) (by omega)]
    split
    · exact ⟨rfl, h, rfl⟩
    · have h2 := ag_shiftDown j (swp d (j + 1) j) (h.swp hj (by omega)) (by rw [size_swp]; omega)
      rw [size_swp] at h2
      exact h2
theorem ag_shiftUp (b : Nat) : ∀ (n j : Nat) (d : Array α), b - j ≤ n → AgP lt lt' d → 1 ≤ j → b ≤ d.size → shiftUp lt b j d = shiftUp lt' b j d ∧ AgP lt lt' (shiftUp lt b j d) ∧ (shiftUp lt b j d).size = d.size := by
  intro n
  induction n with
  | zero =>
    intro j d hn h h1 hb
    rw [shiftUp, shiftUp.eq_def (lt := lt'), if_neg (by omega), if_neg (by omega)]
    exact ⟨rfl, h, rfl⟩
  | succ n ih =>
    intro j d hn h h1 hb
    rw [shiftUp, shiftUp.eq_def (lt := lt')]
    by_cases h3 : j < b
    · rw [if_pos h3, if_pos h3, h.at (show j < d.size by omega) (show j - 1 < d.size by omega) (by omega)]
      split
      · exact ⟨rfl, h, rfl⟩
      · have := ih (j + 1) (swp d j (j - 1)) (by omega) (h.swp (by omega) (by omega)) (by omega) (by rw [size_swp]; exact hb)
        rw [size_swp] at this
        exact this
    · rw [if_neg h3, if_neg h3]
      exact ⟨rfl, h, rfl⟩
theorem ag_partialIns (a b : Nat) : ∀ (s i : Nat) (d : Array α), AgP lt lt' d → 1 ≤ i → i ≤ b → b ≤ d.size → partialIns lt a b s i d = partialIns lt' a b s i d
  | 0, _, _, _, _, _, _ => rfl
  | s + 1, i, d, h, h1, h2, hb => by
    obtain ⟨e1, g1, g2⟩ := ag_scanSorted (lt := lt) (lt' := lt') d b h hb _ i (Nat.le_refl _) h1 h2
    unfold partialIns
    dsimp only
    rw [← e1]
    generalize scanSorted lt d b i = k at g1 g2
    split
    · rfl
    · rename_i hk
      split
      · rfl
      · have h3 := h.swp (show k < d.size by omega) (show k - 1 < d.size by omega)
        have s3 := size_swp d k (k - 1)
        generalize swp d k (k - 1) = e at h3 s3
        have h4 : (if k - a ≥ 2 then shiftDown lt (k - 1) e else e) = (if k - a ≥ 2 then shiftDown lt' (k - 1) e else e) ∧ AgP lt lt' (if k - a ≥ 2 then shiftDown lt (k - 1) e else e) ∧ (if k - a ≥ 2 then shiftDown lt (k - 1) e else e).size = e.size := by
          split
          · exact ag_shiftDown (k - 1) e h3 (by omega)
          · exact ⟨rfl, h3, rfl⟩
        obtain ⟨e4, h4, s4⟩ := h4
        rw [← e4]
        generalize (if k - a ≥ 2 then shiftDown lt (k - 1) e else e) = e2 at h4 s4 ⊢
        have h5 : (if b - k ≥ 2 then shiftUp lt b (k + 1) e2 else e2) = (if b - k ≥ 2 then shiftUp lt' b (k + 1) e2 else e2) ∧ AgP lt lt' (if b - k ≥ 2 then shiftUp lt b (k + 1) e2 else e2) ∧ (if b - k ≥ 2 then shiftUp lt b (k + 1) e2 else e2).size = e2.size := by
          split
          · exact ag_shiftUp b _ (k + 1) e2 (Nat.le_refl _) h4 (by omega) (by omega)
          · exact ⟨rfl, h4, rfl⟩
        obtain ⟨e5, h5, s5⟩ := h5
        rw [← e5]
        exact ag_partialIns a b s k _ h5 (by omega) g2 (by omega)
theorem ag_partialInsertionSort {d : Array α} {a b : Nat} (h : AgP lt lt' d) (hab : a < b) (hb : b ≤ d.size) : partialInsertionSort lt d a b = partialInsertionSort lt' d a b := ag_partialIns a b 5 (a + 1) d h (by omega) (by omega) hb
/-! The pivot. -/
theorem ag_order2 {d : Array α} (h : AgP lt lt' d) {a b s : Nat} (ha : a < d.size) (hb : b < d.size) (hn : a ≠ b) : order2 lt d a b s = order2 lt' d a b s := by
  unfold order2
  rw [h.at hb ha (Ne.symm hn)]
theorem order2_or (d : Array α) (a b s : Nat) : ((order2 lt d a b s).1 = a ∧ (order2 lt d a b s).2.1 = b) ∨ ((order2 lt d a b s).1 = b ∧ (order2 lt d a b s).2.1 = a) := by
  unfold order2
  split
  · exact .inr ⟨rfl, rfl⟩
  · exact .inl ⟨rfl, rfl⟩
theorem ag_median {d : Array α} (h : AgP lt lt' d) {a b c s : Nat} (ha : a < d.size) (hb : b < d.size) (hc : c < d.size) (h1 : a ≠ b) (h2 : a ≠ c) (h3 : b ≠ c) : median lt d a b c s = median lt' d a b c s ∧ ((median lt d a b c s).1 = a ∨ (median lt d a b c s).1 = b ∨ (median lt d a b c s).1 = c) := by
  unfold median
  dsimp only
  rw [← ag_order2 h ha hb h1 (s := s)]
  have o1 := order2_or (lt := lt) d a b s
  generalize order2 lt d a b s = r1 at o1
  rw [← ag_order2 h (show r1.2.1 < d.size by omega) hc (by omega) (s := r1.2.2)]
  have o2 := order2_or (lt := lt) d r1.2.1 c r1.2.2
  generalize order2 lt d r1.2.1 c r1.2.2 = r2 at o2
  rw [← ag_order2 h (show r1.1 < d.size by omega) (show r2.1 < d.size by omega) (by omega) (s := r2.2.2)]
  have o3 := order2_or (lt := lt) d r1.1 r2.1 r2.2.2
  generalize order2 lt d r1.1 r2.1 r2.2.2 = r3 at o3
  exact ⟨rfl, by omega⟩
theorem ag_choosePivot {d : Array α} {a b : Nat} (h : AgP lt lt' d) (hab : a < b) (hb : b ≤ d.size) : choosePivot lt d a b = choosePivot lt' d a b := by
  unfold choosePivot
  dsimp only
  have key : (if b - a ≥ 8 then
      if b - a ≥ 50 then median lt d (medianAdjacent lt d (a + (b - a) / 4 * 1) 0).1 (medianAdjacent lt d (a + (b - a) / 4 * 2) (medianAdjacent lt d (a + (b - a) / 4 * 1) 0).2).1
        (medianAdjacent lt d (a + (b - a) / 4 * 3) (medianAdjacent lt d (a + (b - a) / 4 * 2) (medianAdjacent lt d (a + (b - a) / 4 * 1) 0).2).2).1 (medianAdjacent lt d (a + (b - a) / 4 * 3) (medianAdjacent lt d (a + (b - a) / 4 * 2) (medianAdjacent lt d (a + (b - a) / 4 * 1) 0).2).2).2
      else median lt d (a + (b - a) / 4 * 1) (a + (b - a) / 4 * 2) (a + (b - a) / 4 * 3) 0
    else (a + (b - a) / 4 * 2, 0)) = (if b - a ≥ 8 then
      if b - a ≥ 50 then median lt' d (medianAdjacent lt' d (a + (b - a) / 4 * 1) 0).1 (medianAdjacent lt' d (a + (b - a) / 4 * 2) (medianAdjacent lt' d (a + (b - a) / 4 * 1) 0).2).1
        (medianAdjacent lt' d (a + (b - a) / 4 * 3) (medianAdjacent lt' d (a + (b - a) / 4 * 2) (medianAdjacent lt' d (a + (b - a) / 4 * 1) 0).2).2).1 (medianAdjacent lt' d (a + (b - a) / 4 * 3) (medianAdjacent lt' d (a + (b - a) / 4 * 2) (medianAdjacent lt' d (a + (b - a) / 4 * 1) 0).2).2).2
      else median lt' d (a + (b - a) / 4 * 1) (a + (b - a) / 4 * 2) (a + (b - a) / 4 * 3) 0
    else (a + (b - a) / 4 * 2, 0)) := by
    split
    · split
      · unfold medianAdjacent
        obtain ⟨e1, m1⟩ := ag_median (lt := lt) (lt' := lt') h (a := a + (b - a) / 4 * 1 - 1) (b := a + (b - a) / 4 * 1) (c := a + (b - a) / 4 * 1 + 1) (s := 0) (by omega) (by omega) (by omega) (by omega) (by omega) (by omega)
        rw [← e1]
        generalize median lt d (a + (b - a) / 4 * 1 - 1) (a + (b - a) / 4 * 1) (a + (b - a) / 4 * 1 + 1) 0 = r1 at m1
        obtain ⟨e2, m2⟩ := ag_median (lt := lt) (lt' := lt') h (a := a + (b - a) / 4 * 2 - 1) (b := a + (b - a) / 4 * 2) (c := a + (b - a) / 4 * 2 + 1) (s := r1.2) (by omega) (by omega) (by omega) (by omega) (by omega) (by omega)
        rw [← e2]
        generalize median lt d (a + (b - a) / 4 * 2 - 1) (a + (b - a) / 4 * 2) (a + (b - a) / 4 * 2 + 1) r1.2 = r2 at m2
        obtain ⟨e3, m3⟩ := ag_median (lt := lt) (lt' := lt') h (a := a + (b - a) / 4 * 3 - 1) (b := a + (b - a) / 4 * 3) (c := a + (b - a) / 4 * 3 + 1) (s := r2.2) (by omega) (by omega) (by omega) (by omega) (by omega) (by omega)
        rw [← e3]
        generalize median lt d (a + (b - a) / 4 * 3 - 1) (a + (b - a) / 4 * 3) (a + (b - a) / 4 * 3 + 1) r2.2 = r3 at m3
        exact (ag_median h (by omega) (by omega) (by omega) (by omega) (by omega) (by omega)).1
      · exact (ag_median h (by omega) (by omega) (by omega) (by omega) (by omega) (by omega)).1
    · rfl
  rw [key]
end Go.Sort
