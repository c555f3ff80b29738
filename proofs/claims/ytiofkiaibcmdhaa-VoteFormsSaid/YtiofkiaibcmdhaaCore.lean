import Derived.Test.YtiofkiaibcmdhaaCount
namespace Go.Proofs.Ytiofkiaibcmdhaa
open Go Go.RowKit

/-- Where a core's parts lie. -/
structure Ptr where
  mp : Nat
  mpr : Nat
  mc : Nat
  mt : Nat
  ms : Nat
  md : Nat
  aw : Option Addr
  al : Option Addr
  av : Option Addr
  cw : Nat
  cl : Nat
  cv : Nat

def coreCells (fa : Nat) (s : St) (p : Ptr) : Array Value := #[.int .i64 s.n, .int .i64 s.me, .int .i64 s.slot, .func (.func fa) #[] #[], .int .i64 s.view, .slice p.aw s.wish.length p.cw, .bool s.wishes, .map (some p.mp), .map (some p.mpr), .map (some p.mc),
  .map (some p.mt), .map (some p.ms), .map (some p.md), .int .i64 s.lock, .slice p.al s.locked.length p.cl, .bool s.decided, .slice p.av s.value.length p.cv]

def foot (b : Nat) (p : Ptr) (F1 F2 F3 : List Nat) : List Nat := [b, p.mp, p.mpr, p.mc, p.mt, p.ms, p.md] ++ (F1 ++ (F2 ++ F3))

def PropsAt (w : World) (m : Nat) (t : List (Int × (Bytes × Int))) : Prop := ∃ es, w.heap[m]? = some (mapObj es) ∧ RelL (PropR w) es t
def SeenAt (w : World) (m : Nat) (t : List (Int × Int)) : Prop := ∃ es, w.heap[m]? = some (mapObj es) ∧ RelL IntR es t

structure CoreIn (fa : Nat) (w : World) (b : Nat) (p : Ptr) (F1 F2 F3 : List Nat) (s : St) : Prop where
  blk : w.heap[b]? = some (.cells (coreCells fa s p) 110)
  props : PropsAt w p.mp s.proposals
  preps : ViewsAt w p.mpr F1 s.prepares
  comms : ViewsAt w p.mc F2 s.commits
  turns : ViewsAt w p.mt F3 s.turns
  seen : SeenAt w p.ms s.seen
  decs : ToldAt w p.md s.deciders
  wish : BB w p.aw s.wish
  locked : BB w p.al s.locked
  value : BB w p.av s.value
  nodup : (foot b p F1 F2 F3).Nodup

def CoreAt (fa : Nat) (w : World) (b : Nat) (fp : List Nat) (s : St) : Prop := ∃ p F1 F2 F3, fp = foot b p F1 F2 F3 ∧ CoreIn fa w b p F1 F2 F3 s

theorem PropR.turn {S : List Nat} {w w' : World} {v : Value} {p : Bytes × Int} (h : PropR w v p) (hT : Turn S w w') (hS : NoByte w S) : PropR w' v p := by
  obtain ⟨a, c, h1, h2⟩ := h
  exact ⟨a, c, h1, h2.turn hT hS⟩
theorem PropsAt.turn {S : List Nat} {w w' : World} {m : Nat} {t : List (Int × (Bytes × Int))} (h : PropsAt w m t) (hT : Turn S w w') (hS : NoByte w S) (hm : m ∉ S) : PropsAt w' m t := by
  obtain ⟨es, h1, h2⟩ := h
  exact ⟨es, hT.block m hm _ h1, h2.mono fun _ _ _ _ hx => hx.turn hT hS⟩
theorem SeenAt.turn {S : List Nat} {w w' : World} {m : Nat} {t : List (Int × Int)} (h : SeenAt w m t) (hT : Turn S w w') (hm : m ∉ S) : SeenAt w' m t := by
  obtain ⟨es, h1, h2⟩ := h
  exact ⟨es, hT.block m hm _ h1, h2⟩

theorem CoreIn.noByte {fa : Nat} {w : World} {b : Nat} {p : Ptr} {F1 F2 F3 : List Nat} {s : St} (h : CoreIn fa w b p F1 F2 F3 s) : NoByte w (foot b p F1 F2 F3) := by
  intro k hk cs fz
  obtain ⟨es1, e1, _⟩ := h.props
  obtain ⟨es2, e2, _⟩ := h.seen
  obtain ⟨es3, e3, _⟩ := h.decs
  have n1 := h.preps.noByte
  have n2 := h.comms.noByte
  have n3 := h.turns.noByte
  simp only [foot, List.mem_append, List.mem_cons, List.not_mem_nil, or_false] at hk
  rcases hk with (rfl | rfl | rfl | rfl | rfl | rfl | rfl) | hk | hk | hk
  · rw [h.blk]; simp
  · rw [e1]; simp [mapObj]
  · exact n1 _ (List.mem_cons_self ..) _ _
  · exact n2 _ (List.mem_cons_self ..) _ _
  · exact n3 _ (List.mem_cons_self ..) _ _
  · rw [e2]; simp [mapObj]
  · rw [e3]; simp [mapObj]
  · exact n1 _ (List.mem_cons_of_mem _ hk) _ _
  · exact n2 _ (List.mem_cons_of_mem _ hk) _ _
  · exact n3 _ (List.mem_cons_of_mem _ hk) _ _

theorem CoreIn.lt {fa : Nat} {w : World} {b : Nat} {p : Ptr} {F1 F2 F3 : List Nat} {s : St} (h : CoreIn fa w b p F1 F2 F3 s) : ∀ k ∈ foot b p F1 F2 F3, k < w.heap.size := by
  intro k hk
  obtain ⟨es1, e1, _⟩ := h.props
  obtain ⟨es2, e2, _⟩ := h.seen
  obtain ⟨es3, e3, _⟩ := h.decs
  have n1 := h.preps.lt
  have n2 := h.comms.lt
  have n3 := h.turns.lt
  simp only [foot, List.mem_append, List.mem_cons, List.not_mem_nil, or_false] at hk
  rcases hk with (rfl | rfl | rfl | rfl | rfl | rfl | rfl) | hk | hk | hk
  · exact (Array.getElem?_eq_some_iff.1 h.blk).1
  · exact (Array.getElem?_eq_some_iff.1 e1).1
  · exact n1 _ (List.mem_cons_self ..)
  · exact n2 _ (List.mem_cons_self ..)
  · exact n3 _ (List.mem_cons_self ..)
  · exact (Array.getElem?_eq_some_iff.1 e2).1
  · exact (Array.getElem?_eq_some_iff.1 e3).1
  · exact n1 _ (List.mem_cons_of_mem _ hk)
  · exact n2 _ (List.mem_cons_of_mem _ hk)
  · exact n3 _ (List.mem_cons_of_mem _ hk)

theorem foot_mem {b : Nat} {p : Ptr} {F1 F2 F3 : List Nat} : b ∈ foot b p F1 F2 F3 ∧ p.mp ∈ foot b p F1 F2 F3 ∧ p.mpr ∈ foot b p F1 F2 F3 ∧ p.mc ∈ foot b p F1 F2 F3 ∧ p.mt ∈ foot b p F1 F2 F3 ∧ p.ms ∈ foot b p F1 F2 F3 ∧ p.md ∈ foot b p F1 F2 F3 ∧
    (∀ k ∈ F1, k ∈ foot b p F1 F2 F3) ∧ (∀ k ∈ F2, k ∈ foot b p F1 F2 F3) ∧ (∀ k ∈ F3, k ∈ foot b p F1 F2 F3) := by
  unfold foot
  refine ⟨by simp, by simp, by simp, by simp, by simp, by simp, by simp, ?_, ?_, ?_⟩ <;> (intro k hk; simp [hk])

/-- What it holds stays where something else turns. -/
theorem CoreIn.turn {fa : Nat} {w w' : World} {b : Nat} {p : Ptr} {F1 F2 F3 : List Nat} {s : St} {S : List Nat} (h : CoreIn fa w b p F1 F2 F3 s) (hT : Turn S w w') (hS : NoByte w S) (hd : ∀ k ∈ foot b p F1 F2 F3, k ∉ S) : CoreIn fa w' b p F1 F2 F3 s := by
  obtain ⟨m0, m1, m2, m3, m4, m5, m6, m7, m8, m9⟩ := foot_mem (b := b) (p := p) (F1 := F1) (F2 := F2) (F3 := F3)
  exact ⟨hT.block _ (hd _ m0) _ h.blk, h.props.turn hT hS (hd _ m1), h.preps.turn hT hS (hd _ m2) (fun r hr => hd _ (m7 r hr)), h.comms.turn hT hS (hd _ m3) (fun r hr => hd _ (m8 r hr)), h.turns.turn hT hS (hd _ m4) (fun r hr => hd _ (m9 r hr)),
    h.seen.turn hT (hd _ m5), h.decs.turn hT hS (hd _ m6), h.wish.turn hT hS, h.locked.turn hT hS, h.value.turn hT hS, h.nodup⟩

theorem CoreAt.turn {fa : Nat} {w w' : World} {b : Nat} {fp : List Nat} {s : St} {S : List Nat} (h : CoreAt fa w b fp s) (hT : Turn S w w') (hS : NoByte w S) (hd : ∀ k ∈ fp, k ∉ S) : CoreAt fa w' b fp s := by
  obtain ⟨p, F1, F2, F3, rfl, h⟩ := h
  exact ⟨p, F1, F2, F3, rfl, h.turn hT hS hd⟩
theorem NoByte.nil (w : World) : NoByte w [] := fun k hk => by cases hk
theorem CoreAt.ext {fa : Nat} {w w' : World} {b : Nat} {fp : List Nat} {s : St} (h : CoreAt fa w b fp s) (hE : Ext w w') : CoreAt fa w' b fp s := h.turn (hE.turn []) (NoByte.nil w) (fun _ _ => by simp)
theorem CoreIn.ext {fa : Nat} {w w' : World} {b : Nat} {p : Ptr} {F1 F2 F3 : List Nat} {s : St} (h : CoreIn fa w b p F1 F2 F3 s) (hE : Ext w w') : CoreIn fa w' b p F1 F2 F3 s := h.turn (hE.turn []) (NoByte.nil w) (fun _ _ => by simp)
theorem CoreAt.noByte {fa : Nat} {w : World} {b : Nat} {fp : List Nat} {s : St} (h : CoreAt fa w b fp s) : NoByte w fp := by
  obtain ⟨p, F1, F2, F3, rfl, h⟩ := h; exact h.noByte
theorem CoreAt.lt {fa : Nat} {w : World} {b : Nat} {fp : List Nat} {s : St} (h : CoreAt fa w b fp s) : ∀ k ∈ fp, k < w.heap.size := by
  obtain ⟨p, F1, F2, F3, rfl, h⟩ := h; exact h.lt

/-- What a call of a method leaves behind that turns the core. -/
def CorePost (fa : Nat) (b : Nat) (fp : List Nat) (s : St) (w w' : World) : Prop := ∃ fp', CoreAt fa w' b fp' s ∧ Turn fp w w' ∧ ∀ k ∈ fp', k ∈ fp ∨ w.heap.size ≤ k

theorem CorePost.ext {fa b : Nat} {fp : List Nat} {s : St} {w w' : World} (h : CoreAt fa w b fp s) (hE : Ext w w') : CorePost fa b fp s w w' :=
  ⟨fp, h.ext hE, hE.turn fp, fun _ hk => .inl hk⟩
theorem CorePost.trans {fa b : Nat} {fp fp' : List Nat} {s' : St} {w w1 w2 : World} (hT : Turn fp w w1) (hn : ∀ k ∈ fp', k ∈ fp ∨ w.heap.size ≤ k) (h : CorePost fa b fp' s' w1 w2) : CorePost fa b fp s' w w2 := by
  obtain ⟨fp2, h1, h2, h3⟩ := h
  refine ⟨fp2, h1, hT.trans h2 hn, fun k hk => ?_⟩
  rcases h3 k hk with h4 | h4
  · exact hn k h4
  · exact .inr (Nat.le_trans hT.size h4)

/-- Another core, where this one turns. -/
theorem CoreAt.other {fa : Nat} {w w' : World} {b : Nat} {fp : List Nat} {s : St} {fq : List Nat} (h : CoreAt fa w b fp s) (hq : NoByte w fq) (hT : Turn fq w w') (hd : ∀ k ∈ fp, k ∉ fq) : CoreAt fa w' b fp s := h.turn hT hq hd

theorem Ext.ofBlk {w : World} {b i : Nat} {cs : Array Value} {t : TypeId} {v : Value} (h : w.heap[b]? = some (.cells cs t)) (hv : cs[i]? = some v) : ∀ x, (later w x).cell? ⟨b, i, none⟩ = some v := fun x => by
  unfold World.cell?
  simp [later_heap h, hv]
theorem cell_ofBlk {w : World} {b i : Nat} {cs : Array Value} {t : TypeId} {v : Value} (h : w.heap[b]? = some (.cells cs t)) (hv : cs[i]? = some v) : w.cell? ⟨b, i, none⟩ = some v := by
  unfold World.cell?
  simp [h, hv]

/-- The bounds within which a core stays. -/
def ToldOk (n : Int) (t : Told) : Prop := (t.map (·.1)).Nodup ∧ ∀ k v, (k, v) ∈ t → 1 ≤ k ∧ k ≤ n ∧ v.length ≤ 4096
def ViewsOk (n : Int) (vs : List (Int × Told)) : Prop := (vs.map (·.1)).Nodup ∧ ∀ k t, (k, t) ∈ vs → 0 ≤ k ∧ k ≤ 1048576 ∧ ToldOk n t
structure St.Ok (s : St) : Prop where
  n : 4 ≤ s.n ∧ s.n ≤ 64
  me : 1 ≤ s.me ∧ s.me ≤ s.n
  slot : 0 ≤ s.slot ∧ s.slot ≤ 256
  view : 0 ≤ s.view ∧ s.view ≤ 1048576
  wish : s.wish.length ≤ 4096
  props : (s.proposals.map (·.1)).Nodup ∧ ∀ k p, (k, p) ∈ s.proposals → 0 ≤ k ∧ k ≤ 1048576 ∧ p.1.length ≤ 4096 ∧ -1 ≤ p.2 ∧ p.2 ≤ 1048576
  preps : ViewsOk s.n s.prepares
  comms : ViewsOk s.n s.commits
  turns : ViewsOk s.n s.turns
  seen : (s.seen.map (·.1)).Nodup ∧ ∀ k v, (k, v) ∈ s.seen → 1 ≤ k ∧ k ≤ s.n ∧ 0 ≤ v ∧ v ≤ 1048576
  decs : ToldOk s.n s.deciders
  lock : -1 ≤ s.lock ∧ s.lock ≤ 1048576
  locked : s.locked.length ≤ 4096
  value : s.value.length ≤ 4096

theorem nodup_bound {l : List Int} (h : l.Nodup) (N : Nat) (hb : ∀ k ∈ l, 0 ≤ k ∧ k < N) : l.length ≤ N := by
  have h1 : (l.map Int.toNat).Nodup := by
    rw [List.nodup_iff_pairwise_ne, List.pairwise_map]
    refine List.Pairwise.imp_of_mem ?_ h
    intro a c ha hc hne e
    have := hb a ha
    have := hb c hc
    omega
  have h2 : (l.map Int.toNat).Subset (List.range N) := fun k hk => by
    obtain ⟨a, ha, rfl⟩ := List.mem_map.1 hk
    have := hb a ha
    exact List.mem_range.2 (by omega)
  have := h1.length_le_of_subset h2
  simpa using this

theorem ToldOk.length {n : Int} {t : Told} (h : ToldOk n t) (hn : n ≤ 64) : t.length ≤ 65 := by
  have := nodup_bound h.1 65 fun k hk => by
    obtain ⟨⟨a, v⟩, hm, rfl⟩ := List.mem_map.1 hk
    have := h.2 a v hm
    simp only
    omega
  simpa using this
theorem ViewsOk.length {n : Int} {t : List (Int × Told)} (h : ViewsOk n t) : t.length ≤ 1048577 := by
  have := nodup_bound h.1 1048577 fun k hk => by
    obtain ⟨⟨a, v⟩, hm, rfl⟩ := List.mem_map.1 hk
    have := h.2 a v hm
    simp only
    omega
  simpa using this
theorem ViewsOk.get {n : Int} {t : List (Int × Told)} (h : ViewsOk n t) (k : Int) : ToldOk n ((getV t k).getD []) := by
  cases hg : getV t k with
  | none => exact ⟨List.nodup_nil, fun _ _ hm => by cases hm⟩
  | some x => exact (h.2 k x (getV_mem hg)).2.2
theorem St.Ok.seen_length {s : St} (h : s.Ok) : s.seen.length ≤ 65 := by
  have := nodup_bound h.seen.1 65 fun k hk => by
    obtain ⟨⟨a, v⟩, hm, rfl⟩ := List.mem_map.1 hk
    have := h.seen.2 a v hm
    have := h.n
    simp only
    omega
  simpa using this
end Go.Proofs.Ytiofkiaibcmdhaa
