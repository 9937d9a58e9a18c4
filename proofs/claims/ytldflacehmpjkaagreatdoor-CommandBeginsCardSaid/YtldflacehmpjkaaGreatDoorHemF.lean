/- Joined. -/
import Derived.Test.YtldflacehmpjkaaGreatDoorHemD
import Derived.Laws.Tables
set_option linter.unusedSimpArgs false
set_option linter.unusedVariables false
namespace Go.Hem
theorem abound_spec {G : Gh} {t : List AV} {ρ : Operand→Value} (hρ : ∀ x,VR G (aev t x) (ρ x)) {x : Option Operand} {d n : Nat} (h : abound t x d = some n) :
    (x = none∧n = d) ∨ ∃ y k,x = some y∧ρ y = .int k n:=by
  cases x with
  | none => simp [abound] at h; exact .inl ⟨rfl,h.symm⟩
  | some y =>
    simp only [abound] at h
    obtain ⟨k,hk⟩:=asNat_spec h (hρ y)
    exact .inr ⟨y,k,rfl,hk⟩
theorem run_sliceBounds {P : Program} {w : World} (sl : Bool) {G : Gh} {t : List AV} {ρ : Operand→Value} (hρ : ∀ x,VR G (aev t x) (ρ x)) {lo hi : Option Operand} {len cap h l : Nat}
    (h1 : abound t hi len = some h) (h2 : abound t lo 0 = some l) (hl : l ≤ h) (hc : h ≤ cap) (hlen : hi = none→len ≤ cap) :
    (Instr.sliceBounds sl len cap (lo.map ρ) (hi.map ρ) none).run P w = .ok (l,h,cap) w:=by
  unfold Instr.sliceBounds
  rcases abound_spec hρ h1 with ⟨rfl,rfl⟩ | ⟨y,k,rfl,hy⟩ <;> rcases abound_spec hρ h2 with ⟨rfl,rfl⟩ | ⟨z,k',rfl,hz⟩
  · simp
  · simp [Instr.sliceBound,asIntOf,hz,hl]
  · simp [Instr.sliceBound,asIntOf,hy,hc]
  · simp [Instr.sliceBound,asIntOf,hy,hz,hc,hl]
theorem run_sliceBounds3 {P : Program} {w : World} (sl : Bool) {G : Gh} {t : List AV} {ρ : Operand→Value} (hρ : ∀ x,VR G (aev t x) (ρ x)) {lo : Option Operand} {hi mx : Operand} {len cap h l m : Nat}
    (h1 : asNat (aev t hi) = some h) (h2 : abound t lo 0 = some l) (h3 : asNat (aev t mx) = some m) (hl : l ≤ h) (hc : h ≤ m) (hm : m ≤ cap) :
    (Instr.sliceBounds sl len cap (lo.map ρ) (some (ρ hi)) (some (ρ mx))).run P w = .ok (l,h,m) w:=by
  unfold Instr.sliceBounds
  obtain ⟨k,hk⟩:=asNat_spec h1 (hρ hi)
  obtain ⟨k2,hk2⟩:=asNat_spec h3 (hρ mx)
  rcases abound_spec hρ h2 with ⟨rfl,rfl⟩ | ⟨z,k',rfl,hz⟩
  · simp [Instr.sliceBound,asIntOf,hk,hk2,hc,hm]
  · simp [Instr.sliceBound,asIntOf,hk,hk2,hz,hc,hl,hm]
theorem imm_cut {G : Gh} {xs : List AV} {a : Option Addr} {cap n l h : Nat} (r : VR G (.imm xs) (.slice a xs.length cap)) (hu : uniform n xs = true) (hl : l ≤ h) (hh : h ≤ xs.length) :
    VR G (.imm ((xs.take h).drop l)) (.slice (if cap = l then a else a.map (·.add (l * n))) (h - l) (cap - l)):=by
  by_cases he : h - l = 0
  · have : (xs.take h).drop l = []:=by apply List.drop_eq_nil_of_le; simp; omega
    rw [this,he]
    obtain ⟨ad,rfl⟩ : ∃ ad,a = some ad:=by cases r <;> exact ⟨_,rfl⟩
    split <;> exact .immNil
  · cases r with
    | immNil => simp at hh; omega
    | @imm _ m c o _ cells elem fr vs g1 g2 g3 g4 g5 g6 =>
      have hm : m = n:=by
        simp only [uniform,List.all_eq_true,beq_iff_eq] at hu
        rw [← g2 0 (by omega)]; exact hu _ (List.getElem_mem _)
      subst hm
      rw [if_neg (by omega)]
      have hlen : ((xs.take h).drop l).length = h - l:=by simp; omega
      have key : ∀ i (hi : i < ((xs.take h).drop l).length),((xs.take h).drop l)[i] = xs[l + i]'(by omega):=fun i hi => by simp [List.getElem_drop,List.getElem_take]
      have:=VR.imm (G:=G) (l:=(xs.take h).drop l) (n:=m) (c:=c) (o:=o + l * m) (cap:=cap - l) (fun i j => vs (l + i) j) g1 (fun i hi => by rw [key i hi]; exact g2 _ _) (by omega)
        (fun i j hi hj => by
          have:=g4 (l + i) j (by omega) hj
          rw [Nat.add_mul,← Nat.add_assoc] at this; exact this)
        (fun i j hi hj => g5 (l + i) j (by omega) hj)
        (fun i hi j hj => by
          have e:=key i hi
          have:=g6 (l + i) (by omega) j (by rw [← e]; exact hj)
          simpa [e] using this)
      rw [hlen] at this
      simpa [addr_add] using this
theorem mul_split {l c n : Nat} (h : l ≤ c) : l * n + (c - l) * n = c * n:=by
  rw [← Nat.add_mul]; congr 1; omega
theorem aslice3_sim {P : Program} {G : Gh} {w : World} {t : List AV} {ρ : Operand→Value} (hρ : ∀ x,VR G (aev t x) (ρ x)) {T : TypeId} {a v : AV} {a' : Value} {lo hi mx : Option Operand}
    (ha : VR G a a') (h : aslice3 P T t a lo hi mx = some v) : ∃ v',(Instr.sliceAt T a' (lo.map ρ) (hi.map ρ) (mx.map ρ)).run P w = .ok v' w∧VR G v v':=by
  unfold aslice3 at h
  split at h
  · rename_i b off len cap n'
    simp only [Option.bind_eq_some_iff] at h
    obtain ⟨e,h1,n,hn,h0,⟨y,rfl,h2⟩,l,h3,m,⟨z,rfl,h4⟩,h⟩:=h
    have hu:=sliceElem_spec h1
    split at h
    · rename_i hb
      cases ha with
      | @slice _ _ _ _ _ c cap' sz hc g1 g2 g3 g4 =>
        obtain ⟨b1,b2,b3⟩:=hb
        have hb:=run_sliceBounds3 (P:=P) (w:=w) true hρ (len:=len) (cap:=cap') h2 h3 h4 b1 b2 (by omega)
        have run : (Instr.sliceAt T (.slice (some ⟨c,off,none⟩) len cap') (lo.map ρ) ((some y).map ρ) ((some z).map ρ)).run P w =
            .ok (.slice (if m = l then some ⟨c,off,none⟩ else some ⟨c,off + l * n,none⟩) (h0 - l) (m - l)) w:=by
          simp [Instr.sliceAt,Instr.slice,run_und hu,hb,run_szOf hn,addr_add]
        refine ⟨_,run,?_⟩
        split at h
        · rename_i hlc
          simp at h; subst h
          rw [show h0 - l = 0 by omega,show m - l = 0 by omega,if_pos (by omega)]
          exact .slice hc (Nat.le_refl _) (Nat.le_refl _) g3 (by rw [Nat.zero_mul]; omega)
        · rename_i hlc
          split at h
          rotate_left
          · cases h
          rename_i hnn
          subst hnn
          simp at h; subst h
          rw [if_neg (by omega)]
          have hm:=mul_split (n:=n) (show l ≤ m by omega)
          have hm2 : m * n ≤ cap' * n:=Nat.mul_le_mul_right n (by omega)
          exact .slice hc (by omega) (Nat.le_refl _) g3 (by omega)
    · cases h
  · simp only [Option.bind_eq_some_iff] at h
    obtain ⟨e,h1,n,hn,h0,⟨y,rfl,h2⟩,l,h3,m,⟨z,rfl,h4⟩,h⟩:=h
    have hu:=sliceElem_spec h1
    split at h
    · rename_i hb
      simp at h; subst h
      obtain ⟨rfl,rfl,rfl⟩:=hb
      have hb:=run_sliceBounds3 (P:=P) (w:=w) true hρ (len:=0) (cap:=0) h2 h3 h4 (Nat.le_refl _) (Nat.le_refl _) (Nat.le_refl _)
      rw [ha.sc_inv]
      refine ⟨.slice none 0 0,?_,.sc .nils⟩
      simp [Instr.sliceAt,Instr.slice,run_und hu,Sc.val,hb,run_szOf hn]
    · cases h
  · cases h
theorem aslice_sim {P : Program} {B : World} {G : Gh} {H : AHeap} {w : World} (hS : Sim B G H w) {t : List AV} {ρ : Operand→Value} (hρ : ∀ x,VR G (aev t x) (ρ x)) {T : TypeId} {a v : AV} {a' : Value} {lo hi : Option Operand}
    (ha : VR G a a') (h : aslice P H T t a lo hi = some v) : ∃ v',(Instr.sliceAt T a' (lo.map ρ) (hi.map ρ) none).run P w = .ok v' w∧VR G v v':=by
  unfold aslice at h
  cases a <;> simp only [reduceCtorEq,Option.bind_eq_bind,Option.bind_eq_some_iff] at h
  case sc s =>
    cases s <;> simp only [reduceCtorEq,Option.bind_eq_bind,Option.bind_eq_some_iff] at h
    obtain ⟨e,h1,n,hn,h0,h2,l,h3,h⟩:=h
    split at h
    · rename_i hz
      simp at h; subst h
      obtain ⟨rfl,rfl⟩:=hz
      have hu:=sliceElem_spec h1
      have hb:=run_sliceBounds (P:=P) (w:=w) true hρ (len:=0) (cap:=0) h2 h3 (Nat.le_refl _) (Nat.le_refl _) (fun _ => Nat.le_refl _)
      rw [ha.sc_inv]
      refine ⟨.slice none 0 0,?_,.sc .nils⟩
      simp [Instr.sliceAt,Instr.slice,run_und hu,Sc.val,hb,run_szOf hn]
    · cases h
  case slice b off len cap n' =>
    obtain ⟨e,h1,n,hn,h0,h2,l,h3,h⟩:=h
    have hu:=sliceElem_spec h1
    split at h
    · rename_i hb
      cases ha with
      | @slice _ _ _ _ _ c cap' sz hc g1 g2 g3 g4 =>
        obtain ⟨b1,b2,rfl⟩:=hb
        have hb:=run_sliceBounds (P:=P) (w:=w) true hρ (len:=len) (cap:=cap') h2 h3 b1 (by omega) (fun _ => by omega)
        have run : (Instr.sliceAt T (.slice (some ⟨c,off,none⟩) len cap') (lo.map ρ) (hi.map ρ) none).run P w =
            .ok (.slice (if cap' = l then some ⟨c,off,none⟩ else some ⟨c,off + l * n,none⟩) (h0 - l) (cap' - l)) w:=by
          simp [Instr.sliceAt,Instr.slice,run_und hu,hb,run_szOf hn,addr_add]
        refine ⟨_,run,?_⟩
        split at h
        · rename_i hlc
          simp at h; subst h
          rw [show h0 - l = 0 by omega]; split <;> exact .immNil
        · rename_i hlc
          simp at h; subst h
          rw [if_neg (by omega)]
          have hm:=mul_split (n:=n) (show l ≤ cap' by omega)
          exact .slice hc (by omega) (by omega) g3 (by omega)
    · cases h
  case imm xs =>
    obtain ⟨e,h1,n,hn,h0,h2,l,h3,h⟩:=h
    have hu:=sliceElem_spec h1
    split at h
    · rename_i hb
      simp at h; subst h
      have hsh : ∃ ad cap',a' = .slice ad xs.length cap'∧xs.length ≤ cap':=by
        cases ha with
        | @immNil ad cap => exact ⟨ad,cap,rfl,Nat.zero_le _⟩
        | imm vs g1 g2 g3 g4 g5 g6 => exact ⟨_,_,rfl,g3⟩
      obtain ⟨ad,cap',rfl,hle⟩:=hsh
      have hb':=run_sliceBounds (P:=P) (w:=w) true hρ (len:=xs.length) (cap:=cap') h2 h3 hb.1 (by omega) (fun _ => hle)
      refine ⟨_,?_,imm_cut ha hb.2.2 hb.1 hb.2.1⟩
      simp [Instr.sliceAt,Instr.slice,run_und hu,hb',run_szOf hn]
    · cases h
  case ptr b off =>
    obtain ⟨⟨m,e⟩,h1,n,hn,h0,h2,l,h3,cs,h4,h⟩:=h
    have hu:=arrayOf_spec h1
    simp only at h h2
    split at h
    · rename_i hb
      cases ha with
      | @ptr _ _ c hc =>
        have hb':=run_sliceBounds (P:=P) (w:=w) false hρ (len:=m) (cap:=m) h2 h3 hb.1 hb.2.1 (fun _ => Nat.le_refl _)
        have run : (Instr.sliceAt T (.pointer (some ⟨c,off,none⟩)) (lo.map ρ) (hi.map ρ) none).run P w =
            .ok (.slice (some (if m = l then ⟨c,off,none⟩ else ⟨c,off + l * n,none⟩)) (h0 - l) (m - l)) w:=by
          simp [Instr.sliceAt,run_und hu,hb',run_szOf hn,addr_add,Instr.sureAddr]
        refine ⟨_,run,?_⟩
        split at h
        · rename_i hlc
          simp at h; subst h
          rw [show h0 - l = 0 by omega]; exact .immNil
        · rename_i hlc
          simp at h; subst h
          rw [if_neg (by omega)]
          obtain ⟨s,q1,q2⟩:=live_sz hS h4 hc
          have hm:=mul_split (n:=n) (show l ≤ m by omega)
          exact .slice hc (by omega) (by omega) q1 (by omega)
    · cases h
theorem part_sim {P : Program} {G : Gh} {w : World} {T : TypeId} {cs : List AV} {vs : List Value} {off : Nat} {v : AV} (r : VRs G cs vs) (h : aread P T cs off = some v) :
    ∃ v',(part T vs.toArray off).run P w = .ok v' w∧VR G v v':=by
  unfold aread at h
  simp only [Option.bind_eq_bind,Option.bind_eq_some_iff] at h
  obtain ⟨b,hb,hr⟩:=h
  unfold part
  rw [Sem.run_bind,run_isAgg hb]
  cases b with
  | true =>
    simp only [if_true,Option.bind_eq_some_iff] at hr
    obtain ⟨n,hn,hr⟩:=hr
    split at hr
    · rename_i hle
      simp at hr; subst hr
      have:=(r.drop off).take n
      refine ⟨.agg ((vs.drop off).take n).toArray,?_,.agg this.1 this.2⟩
      simp only [Result.andThen_ok,if_true,Sem.run_bind,run_szOf hn,Sem.run_pure]
      congr 2
      apply Array.ext'
      simp [List.take_drop]
    · cases hr
  | false =>
    simp only [Bool.false_eq_true,if_false] at hr
    obtain ⟨y,hy,hv⟩:=r.get hr
    refine ⟨y,?_,hv⟩
    simp [hy]
theorem afield_sim {P : Program} {G : Gh} {w : World} {s : TypeId} {f : Nat} {a v : AV} {a' : Value} (ha : VR G a a') (h : afield P s a f = some v) :
    ∃ v',(Instr.field s a' f).run P w = .ok v' w∧VR G v v':=by
  simp only [afield,Option.bind_eq_bind,Option.bind_eq_some_iff] at h
  obtain ⟨fs,h1,fd,h2,h⟩:=h
  cases a <;> simp only [reduceCtorEq] at h
  cases ha with
  | agg hl hv =>
    obtain ⟨v',g1,g2⟩:=part_sim (w:=w) ⟨hl,hv⟩ h
    refine ⟨v',?_,g2⟩
    simp [Instr.field,run_und (structOf_spec h1),h2,asAgg,g1]
theorem splice_len {cs : List AV} {off : Nat} {xs : List AV} (h : off + xs.length ≤ cs.length) : (splice cs off xs).length = cs.length:=by
  simp [splice]; omega
theorem VRs.splice {G : Gh} {cs xs : List AV} {vs ys : List Value} (off : Nat) (h : VRs G cs vs) (k : VRs G xs ys) : VRs G (splice cs off xs) (vs.take off ++ ys ++ vs.drop (off + ys.length)):=by
  unfold Hem.splice
  rw [← k.1]
  exact ((h.take off).append k).append (h.drop _)
theorem foldl_set (ys : List Value) : ∀ (off k : Nat) (vs : Array Value),off + k + ys.length ≤ vs.size →
    ((ys.zipIdx k).foldl (fun cs (c,j) => cs.setIfInBounds (off + j) c) vs).toList = vs.toList.take (off + k) ++ ys ++ vs.toList.drop (off + k + ys.length):=by
  induction ys with
  | nil => intro off k vs h; simp
  | cons y ys ih =>
    intro off k vs h
    simp only [List.zipIdx_cons,List.foldl_cons]
    rw [ih off (k + 1) (vs.setIfInBounds (off + k) y) (by simp at h ⊢; omega)]
    have hk : off + k < vs.toList.length:=by simp at h ⊢; omega
    have hk' : off + k < vs.size:=by simpa using hk
    simp only [Array.toList_setIfInBounds,List.length_cons]
    have e1 : (vs.toList.set (off + k) y).take (off + (k + 1)) = vs.toList.take (off + k) ++ [y]:=by
      rw [show off + (k + 1) = off + k + 1 by omega,List.take_add_one,List.take_set_of_le (by omega),List.getElem?_set_self hk]
      rfl
    have e2 : (vs.toList.set (off + k) y).drop (off + (k + 1) + ys.length) = vs.toList.drop (off + k + (ys.length + 1)):=by
      rw [List.drop_set_of_lt (by omega)]
      congr 1; omega
    rw [e1,e2]; simp
theorem fill_sim {G : Gh} {place place' : Nat→Option (Nat × Nat)} (hp : ∀ i x,place i = some x→place' i = some x) : ∀ {parts : List (Nat × AV)} {parts' : List (Nat × Value)} {cs out : List AV} {vs : List Value},
    parts.map (·.1) = parts'.map (·.1)→VRs G (parts.map (·.2)) (parts'.map (·.2))→VRs G cs vs→afill place cs parts = some out →
    ∃ vs',Instr.fill place' vs.toArray parts' = some vs'.toArray∧VRs G out vs'
  | [],parts',cs,out,vs,h1,h2,h3,h => by
    have : parts' = []:=by simpa using h1.symm
    subst this
    simp [afill] at h; subst h
    exact ⟨vs,rfl,h3⟩
  | (i,v) :: rest,parts',cs,out,vs,h1,h2,h3,h => by
    match parts',h1,h2 with
    | (j,y) :: rest',h1,h2 =>
      simp only [List.map_cons,List.cons.injEq] at h1 h2
      obtain ⟨rfl,h1⟩:=h1
      simp only [afill] at h
      split at h
      · cases h
      · rename_i off size hpl
        split at h
        · cases h
        · rename_i hc
          simp only [not_or,Nat.not_lt,ne_eq,Decidable.not_not,Bool.not_eq_false] at hc
          obtain ⟨c1,c2,c3⟩:=hc
          have hvy:=h2.head.cells c3
          have hl:=hvy.1
          have hsz : y.cells.size = size:=by simp at hl; omega
          have hlen:=h3.1
          simp only [Array.length_toList] at hl
          have hfold:=foldl_set y.cells.toList off 0 vs.toArray (by simp; omega)
          have:=fill_sim hp h1 h2.tail (h3.splice off hvy) h
          obtain ⟨vs',g1,g2⟩:=this
          refine ⟨vs',?_,g2⟩
          simp only [Instr.fill,hp _ _ hpl]
          rw [if_neg (by simp; omega)]
          rw [← g1]
          congr 1
          apply Array.ext'
          rw [← Array.foldl_toList,Array.toList_zipIdx]
          simpa using hfold
theorem parts_fst {t : List AV} {ρ : Operand→Value} (parts : Array (Nat × Operand)) : (parts.toList.map fun p => (p.1,aev t p.2)).map (·.1) = ((parts.map fun (i,x) => (i,ρ x)).toList).map (·.1):=by
  simp [Function.comp_def]
theorem VRs.map {α : Type} {G : Gh} {f : α→AV} {g : α→Value} (l : List α) (h : ∀ x,VR G (f x) (g x)) : VRs G (l.map f) (l.map g):=⟨by simp,fun i h1 h2 => by simpa using h _⟩
theorem parts_snd {G : Gh} {t : List AV} {ρ : Operand→Value} (hρ : ∀ x,VR G (aev t x) (ρ x)) (parts : Array (Nat × Operand)) :
    VRs G ((parts.toList.map fun p => (p.1,aev t p.2)).map (·.2)) (((parts.map fun (i,x) => (i,ρ x)).toList).map (·.2)):=by
  simp only [List.map_map,Array.toList_map]
  exact VRs.map _ fun x => hρ _
theorem of_cells {G : Gh} {v : Value} {z : AV} (h : AV.of? v = some z) : VRs G z.cells v.cells.toList:=by
  have one : ∀ {v : Value} {z : AV},AV.ofCell? v = some z→v.cells = #[v]→VRs G z.cells v.cells.toList:=fun {v z} h hv => by
    rw [hv]
    have:=ofCell_spec (G:=G) h
    simp only [AV.ofCell?,Option.map_eq_some_iff] at h
    obtain ⟨s,h1,rfl⟩:=h
    exact VRs.cons this VRs.nil
  have h0:=h
  unfold AV.of? at h
  split at h
  · rename_i cs
    simp only [Option.map_eq_some_iff] at h
    obtain ⟨x,h1,rfl⟩:=h
    exact ofCells_spec h1
  · have:=of_spec (G:=G) h0
    split at h
    · simp at h; subst h; exact VRs.cons this VRs.nil
    · simp only [Option.map_eq_some_iff] at h
      obtain ⟨x,h1,rfl⟩:=h
      exact VRs.cons this VRs.nil
  · rename_i h2 h3
    refine one h ?_
    cases v <;> first | rfl | exact absurd rfl (h2 _)
theorem abuild_sim {P : Program} {G : Gh} {w : World} {T : TypeId} {t : List AV} {ρ : Operand→Value} (hρ : ∀ x,VR G (aev t x) (ρ x)) {parts : Array (Nat × Operand)} {v : AV}
    (h : abuild P T (parts.toList.map fun p => (p.1,aev t p.2)) = some v) : ∃ v',(Instr.build T (parts.map fun (i,x) => (i,ρ x))).run P w = .ok v' w∧VR G v v':=by
  simp only [abuild,Option.bind_eq_bind,Option.bind_eq_some_iff] at h
  obtain ⟨z,h1,h⟩:=h
  obtain ⟨i,zv,g1,g2,g3⟩:=azero_spec h1
  have hz:=of_cells (G:=G) g3
  have p1:=parts_fst (t:=t) (ρ:=ρ) parts
  have p2:=parts_snd hρ parts
  split at h
  · rename_i fs hu
    simp only [Option.bind_eq_some_iff,Option.map_eq_some_iff] at h
    obtain ⟨ps,h2,out,h3,rfl⟩:=h
    obtain ⟨vs',f1,f2⟩:=fill_sim (place':=fun i => ps.toArray[i]?) (fun i x hx => by simpa using hx) p1 p2 hz h3
    refine ⟨.agg vs'.toArray,?_,.agg f2.1 f2.2⟩
    simp [Instr.build,run_zeroV g1 g2,run_und hu,Array.mapM_eq_mapM_toList,run_places w _ _ h2] at f1 ⊢
    simp [f1]
  · rename_i n e hu
    simp only [Option.bind_eq_some_iff,Option.map_eq_some_iff] at h
    obtain ⟨m,h2,out,h3,rfl⟩:=h
    obtain ⟨vs',f1,f2⟩:=fill_sim (place':=fun i => some (i * m,m)) (fun i x hx => hx) p1 p2 hz h3
    refine ⟨.agg vs'.toArray,?_,.agg f2.1 f2.2⟩
    simp [Instr.build,run_zeroV g1 g2,run_und hu,run_szOf h2] at f1 ⊢
    simp [f1]
  · cases h
theorem rep_eq (n : Nat) (z : Array Value) : ((List.replicate n z.toList).flatten) = ((Array.range (n * z.size)).map (z[· % z.size]!)).toList:=by
  induction n with
  | zero => simp
  | succ n ih =>
    by_cases h0 : z.size = 0
    · have : z = #[]:=by simpa using h0
      subst this; simp
    rw [List.replicate_succ',List.flatten_append,ih]
    apply List.ext_getElem?
    intro i
    simp only [Array.toList_map,Array.toList_range,List.flatten_cons,List.flatten_nil,List.append_nil]
    by_cases hi : i < n * z.size
    · rw [List.getElem?_append_left (by simpa using hi)]
      simp [hi,show i < (n + 1) * z.size by rw [Nat.add_mul]; omega]
    · rw [List.getElem?_append_right (by simpa using hi)]
      simp only [List.length_map,List.length_range,List.getElem?_map]
      by_cases hj : i < (n + 1) * z.size
      · rw [List.getElem?_range hj]
        rw [Nat.add_mul] at hj
        have : i % z.size = i - n * z.size:=by
          rw [show i = z.size * n + (i - n * z.size) by rw [Nat.mul_comm]; omega,Nat.mul_add_mod_self_left]
          rw [Nat.mul_comm z.size n]
          rw [Nat.mod_eq_of_lt (by omega)]; omega
        simp [this,show i - n * z.size < z.size by omega]
      · rw [List.getElem?_eq_none (by rw [Nat.add_mul] at hj; simp; omega),List.getElem?_eq_none (by simpa using hj)]
        rfl
theorem BR_cells {G : Gh} {cs : List AV} {vs : List Value} {e : TypeId} (rest : List Value) (h : VRs G cs vs) (h1 : ∀ u ∈ vs,u.oneCell' = true) : BR G (.cells cs) (.cells (vs ++ rest).toArray e (0,0)):=by
  have hl:=h.1
  refine ⟨rfl,by simp; omega,fun j a b => ?_⟩
  have : (vs ++ rest).toArray[j]'b = vs[j]'(by omega):=by simp [List.getElem_append_left (show j < vs.length by omega)]
  rw [this]
  exact ⟨h.2 j a _,h1 _ (List.getElem_mem _)⟩
theorem ones_rep {z : List AV} (h : AV.ones z = true) : ∀ n,AV.ones (rep n z) = true
  | 0 => rfl
  | n + 1 => by
    have:=ones_rep h n
    simp only [AV.ones,rep,List.all_append,Bool.and_eq_true] at this h ⊢
    exact ⟨h,this⟩
theorem ones_splice {cs xs : List AV} {off : Nat} (h : AV.ones cs = true) (k : AV.ones xs = true) : AV.ones (splice cs off xs) = true:=by
  simp only [AV.ones,splice,List.all_append,Bool.and_eq_true,List.all_eq_true] at *
  exact ⟨⟨fun x hx => h x (List.mem_of_mem_take hx),k⟩,fun x hx => h x (List.mem_of_mem_drop hx)⟩
theorem ones_fill {place : Nat→Option (Nat × Nat)} : ∀ {parts : List (Nat × AV)} {cs out : List AV},AV.ones cs = true→afill place cs parts = some out→AV.ones out = true
  | [],cs,out,h,e => by simp [afill] at e; subst e; exact h
  | (i,v) :: rest,cs,out,h,e => by
    simp only [afill] at e
    split at e
    · cases e
    · split at e
      · cases e
      · rename_i hc
        simp only [not_or,Bool.not_eq_false] at hc
        exact ones_fill (ones_splice h hc.2.2) e
theorem len_rep (z : List AV) : ∀ n,(rep n z).length = n * z.length
  | 0 => by simp [rep]
  | n + 1 => by simp [rep,len_rep z n,Nat.add_mul]; omega
theorem len_fill {place : Nat→Option (Nat × Nat)} : ∀ {parts : List (Nat × AV)} {cs out : List AV},afill place cs parts = some out→out.length = cs.length
  | [],cs,out,e => by simp [afill] at e; subst e; rfl
  | (i,v) :: rest,cs,out,e => by
    simp only [afill] at e
    split at e
    · cases e
    · split at e
      · cases e
      · rename_i hc
        simp only [not_or,Nat.not_lt] at hc
        rw [len_fill e,splice_len hc.2.1]
theorem abuildSlice_sim {P : Program} {G : Gh} {H : AHeap} {w : World} {T : TypeId} {len : Nat} {t : List AV} {ρ : Operand→Value} (hρ : ∀ x,VR G (aev t x) (ρ x)) {parts : Array (Nat × Operand)} {e : Eff}
    (h : abuildSlice P T len (parts.toList.map fun p => (p.1,aev t p.2)) = some e) :
    OpSim P G H w ((do pure (Next.value (← Instr.buildSlice T len (parts.map fun (i,x) => (i,ρ x)))) : Sem Next).run P w) e:=by
  simp only [abuildSlice,Option.bind_eq_bind,Option.bind_eq_some_iff] at h
  obtain ⟨el,h1,n,h2,h⟩:=h
  have hu:=sliceElem_spec h1
  split at h
  · cases h
  rename_i hbig
  split at h
  · rename_i h0
    split at h
    · rename_i hp
      simp at h; subst h
      have hp' : parts = #[]:=by simpa using hp
      subst hp'
      have hz : Array.map (fun (_ : Nat) => (default : Value)) (Array.range 0) = #[]:=by simp
      refine ⟨_,w.alloc (.cells #[] el (0,0)),.cells #[] el (0,0),by simp [Instr.buildSlice,run_und hu,run_szOf h2,hbig,h0,Instr.fill,newRow]; rw [hz],push_alloc w _,⟨rfl,by simp,fun j a => by simp at a⟩,rfl,fun b G' _ hb hs => .slice hb (Nat.le_refl _) (Nat.le_refl _) hs (by simp [h0])⟩
    · cases h
  · rename_i h0
    simp only [Option.bind_eq_some_iff] at h
    obtain ⟨z,h3,h⟩:=h
    split at h
    · cases h
    rename_i hz
    simp only [not_or,ne_eq,Decidable.not_not,Bool.not_eq_false] at hz
    simp only [Option.bind_eq_some_iff] at h
    obtain ⟨cs,h4,h⟩:=h
    simp at h; subst h
    obtain ⟨i,zv,g1,g2,g3⟩:=azero_spec h3
    have hzc:=of_cells (G:=G) g3
    have hzl : zv.cells.size = n:=by have:=hzc.1; simp at this; omega
    have hrep:=hzc.rep len
    rw [rep_eq,hzl] at hrep
    obtain ⟨vs',f1,f2⟩:=fill_sim (place':=fun i => some (i * n,n)) (fun i x hx => hx) (parts_fst (t:=t) (ρ:=ρ) parts) (parts_snd hρ parts) hrep h4
    have hones:=ones_fill (ones_rep hz.2 len) h4
    have hb:=BR_cells (e:=el) [] f2 (f2.ones hones)
    simp only [List.append_nil] at hb
    refine ⟨_,_,.cells vs'.toArray el (0,0),?_,push_alloc w _,hb,rfl,fun b G' _ hb hs => .slice hb (Nat.le_refl _) (Nat.le_refl _) hs (by
      have:=f2.1
      rw [len_fill h4,len_rep,hz.1] at this
      simp; omega)⟩
    simp only [Array.toArray_toList] at f1
    simp [Instr.buildSlice,run_und hu,run_szOf h2,hbig,h0,run_zeroV g1 g2,hzl,f1,newRow] at f1 ⊢
    simp [f1]
end Go.Hem
set_option linter.unusedSimpArgs false
set_option linter.unusedVariables false
namespace Go.Hem
theorem newVar_sim {P : Program} {G : Gh} {w : World} {e : TypeId} {cs : List AV} {v : Value} (h : VRs G cs v.cells.toList) (ho : AV.ones cs = true) :
    ∃ o,(newVar e v).run P w = .ok ⟨w.heap.size,0,none⟩ (w.alloc o)∧BR G (.cells cs) o∧Obj.plain o:=by
  have hb:=BR_cells (e:=e) [] h (h.ones ho)
  simp only [List.append_nil,Array.toArray_toList] at hb
  exact ⟨.cells v.cells e (0,0),by simp [newVar,newRow],hb,rfl⟩
theorem newVar_simT {P : Program} {G : Gh} {w : World} {e : TypeId} {cs : List AV} {v : Value} (h : VRs G cs v.cells.toList) (ho : AV.ones cs = true) :
    ∃ o,(newVar e v).run P w = .ok ⟨w.heap.size,0,none⟩ (w.alloc o)∧BR G (.cells cs) o∧Obj.plain o∧Obj.csize o = some (cs.length,e):=by
  have hb:=BR_cells (e:=e) [] h (h.ones ho)
  simp only [List.append_nil,Array.toArray_toList] at hb
  exact ⟨.cells v.cells e (0,0),by simp [newVar,newRow],hb,rfl,by simp [Obj.csize,h.1]⟩
theorem amakeSlice_sim {P : Program} {G : Gh} {H : AHeap} {w : World} {T : TypeId} {l c : AV} {l' c' : Value} (hl : VR G l l') (hc : VR G c c') {e : Eff} (h : amakeSlice P T l c = some e) :
    OpSim P G H w ((do pure (Next.value (← Instr.makeSlice T l' c')) : Sem Next).run P w) e:=by
  simp only [amakeSlice,Option.bind_eq_bind,Option.bind_eq_some_iff] at h
  obtain ⟨el,h1,n,h2,i,h3,ln,h4,cn,h5,h⟩:=h
  have hu:=sliceElem_spec h1
  obtain ⟨k,rfl⟩:=asNat_spec h4 hl
  obtain ⟨k',rfl⟩:=asNat_spec h5 hc
  split at h
  rotate_left
  · cases h
  rename_i hb
  obtain ⟨b1,b2,b3⟩:=hb
  have wl : IntKind.i64.wrap (ln : Int) = ln:=by simp [IntKind.wrap,IntKind.bits,IntKind.signed]; omega
  have wc : IntKind.i64.wrap (cn : Int) = cn:=by simp [IntKind.wrap,IntKind.bits,IntKind.signed]; omega
  have hbig : ¬ (281474976710656 : Int) < i.bytes * cn:=by
    have : (2 : Int) ^ 47 = 140737488355328:=by decide
    omega
  split at h
  · rename_i h0
    simp at h; subst h
    have hz : Array.map (fun (_ : Nat) => (default : Value)) (Array.range 0) = #[]:=by simp
    refine ⟨_,w.alloc (.cells #[] el (0,0)),.cells #[] el (0,0),?_,push_alloc w _,⟨rfl,by simp,fun j a => by simp at a⟩,rfl,fun b G' _ hb hs => .slice hb b1 (Nat.le_refl _) hs (by simp [h0])⟩
    unfold Instr.makeSlice
    simp [run_und hu,asInt,asIntOf,typeInfo,h3,wl,wc,run_szOf h2,h0,newRow,show ¬ (ln : Int) < 0 by omega,show ¬ (cn : Int) < (ln : Int) by omega,show ¬ (cn : Int) < 0 by omega,hbig]
    rw [hz]
  · rename_i h0
    simp only [Option.bind_eq_some_iff] at h
    obtain ⟨z,h6,h⟩:=h
    split at h
    · cases h
    rename_i hz
    simp only [not_or,ne_eq,Decidable.not_not,Bool.not_eq_false] at hz
    simp at h; subst h
    obtain ⟨i',zv,g1,g2,g3⟩:=azero_spec h6
    have hzc:=of_cells (G:=G) g3
    have hzl : zv.cells.size = n:=by have:=hzc.1; simp at this; omega
    have hrep:=hzc.rep cn
    rw [rep_eq,hzl] at hrep
    have hb:=BR_cells (e:=el) [] hrep (hrep.ones (ones_rep hz.2 cn))
    simp only [List.append_nil,Array.toArray_toList] at hb
    refine ⟨_,w.alloc (.cells _ el (0,0)),_,?_,push_alloc w _,hb,rfl,fun b G' _ hb hs => .slice hb b1 (Nat.le_refl _) hs (by simp)⟩
    unfold Instr.makeSlice
    simp [run_und hu,asInt,asIntOf,typeInfo,h3,wl,wc,run_szOf h2,h0,newRow,show ¬ (ln : Int) < 0 by omega,show ¬ (cn : Int) < (ln : Int) by omega,show ¬ (cn : Int) < 0 by omega,hbig,run_zeroV g1 g2,hzl]
theorem BR_splice {G : Gh} {cs xs : List AV} {cells : Array Value} {ys : List Value} {e : TypeId} {off : Nat} (h : BR G (.cells cs) (.cells cells e (0,0))) (k : VRs G xs ys) (hf : off + xs.length ≤ cs.length)
    (h1 : ∀ u ∈ ys,u.oneCell' = true) : BR G (.cells (splice cs off xs)) (.cells (cells.toList.take off ++ ys ++ cells.toList.drop (off + ys.length)).toArray e (0,0)):=by
  obtain ⟨_,hl,hc⟩:=h
  have hk:=k.1
  refine ⟨rfl,by rw [splice_len hf]; simp; omega,fun j a b => ?_⟩
  rw [splice_len hf] at a
  by_cases j1 : j < off
  · have e1 : (splice cs off xs)[j] = cs[j]'a:=by
      simp only [splice]
      rw [List.getElem_append_left (by simp; omega),List.getElem_append_left (by simp; omega)]
      simp
    have e2 : (cells.toList.take off ++ ys ++ cells.toList.drop (off + ys.length)).toArray[j]'b = cells[j]'(by omega):=by
      simp only [List.getElem_toArray]
      rw [List.getElem_append_left (by simp; omega),List.getElem_append_left (by simp; omega)]
      simp
    rw [e1,e2]; exact hc j a _
  · by_cases j2 : j < off + xs.length
    · have e1 : (splice cs off xs)[j]'(by rw [splice_len hf]; exact a) = xs[j - off]'(by omega):=by
        simp only [splice]
        rw [List.getElem_append_left (by simp; omega),List.getElem_append_right (by simp; omega)]
        congr 1; simp; omega
      have e2 : (cells.toList.take off ++ ys ++ cells.toList.drop (off + ys.length)).toArray[j]'b = ys[j - off]'(by omega):=by
        simp only [List.getElem_toArray]
        rw [List.getElem_append_left (by simp; omega),List.getElem_append_right (by simp; omega)]
        congr 1; simp; omega
      rw [e1,e2]; exact ⟨k.2 _ _ _,h1 _ (List.getElem_mem _)⟩
    · have e1 : (splice cs off xs)[j]'(by rw [splice_len hf]; exact a) = cs[j]'a:=by
        simp only [splice]
        rw [List.getElem_append_right (by simp; omega),List.getElem_drop]
        congr 1; simp; omega
      have e2 : (cells.toList.take off ++ ys ++ cells.toList.drop (off + ys.length)).toArray[j]'b = cells[j]'(by omega):=by
        simp only [List.getElem_toArray]
        rw [List.getElem_append_right (by simp; omega),List.getElem_drop]
        simp only [Array.getElem_toList]
        congr 1; simp; omega
      rw [e1,e2]; exact hc j a _
theorem cells_get {H : AHeap} {b : Nat} {cs : List AV} (h : H.cells b = some cs) : H.get b = some (.cells cs):=by
  unfold AHeap.cells at h
  split at h
  · simp at h; subst h; assumption
  · cases h
theorem astore_sim {P : Program} {B : World} {G : Gh} {H : AHeap} {w : World} (hS : Sim B G H w) {T : TypeId} {a x : AV} {a' x' : Value} (ha : VR G a a') (hx : VR G x x') {e : Eff} (h : astore P T H a x = some e) :
    OpSim P G H w ((do Instr.storeAt T a' x'; pure Next.skip : Sem Next).run P w) e:=by
  unfold astore at h
  cases a <;> simp only [reduceCtorEq,Option.bind_eq_bind,Option.bind_eq_some_iff] at h
  rename_i b off
  obtain ⟨cs,h1,n,h2,h⟩:=h
  split at h
  · rename_i hc
    simp at h; subst h
    obtain ⟨c1,c2,c3⟩:=hc
    cases ha with
    | @ptr _ _ c hcb =>
      obtain ⟨cells,el,g1,g2,g3⟩:=live_cells hS h1 hcb
      have hv:=hx.cells c3
      have hvl:=hv.1
      simp only [Array.length_toList] at hvl
      have hsz : cs.length ≤ cells.size:=g2.2.1
      have hst:=run_storeCells_at P c off el x'.cells.toList 0 cells w g1 (by simp; omega) (hv.ones c3)
      refine ⟨_,_,_,_,c,?_,g3,hcb,at_setRow w c cells _ el (0,0) g1,by simp [g1,Obj.csize]; omega,BR_splice g2 hv (by omega) (hv.ones c3),rfl,⟨undef,.sc .undef,.inr ⟨rfl,rfl⟩⟩⟩
      simp only [Nat.add_zero] at hst
      simp only [Instr.storeAt,Instr.sureAddr,storeVar,Sem.run_bind,Sem.run_pure,Result.andThen_ok,run_szOf h2]
      rw [if_neg (by omega)]
      simp only [Sem.run_bind,Sem.run_pure,Result.andThen_ok,hst]
  · cases h
theorem extract_list (s : ByteArray) (m : Nat) : (s.extract 0 m).data.toList = s.data.toList.take m:=by
  have : (s.extract 0 m).data = s.data.extract 0 m:=by simp
  rw [this]; simp
theorem asrc_sim {P : Program} {B : World} {G : Gh} {H : AHeap} {w : World} (hS : Sim B G H w) {n m : Nat} {x : AV} {x' : Value} (hx : VR G x x') {xs : List AV} (h : asrc n H x m = some xs) :
    ∃ ys,(Builtin.firstCells n m x').run P w = .ok ys.toArray w∧VRs G xs ys∧(∀ u ∈ ys,u.oneCell' = true)∧xs.length = m * n:=by
  unfold asrc at h
  split at h
  · rename_i b off len cap nn
    simp only [Option.bind_eq_some_iff] at h
    obtain ⟨cs,h1,h⟩:=h
    split at h
    · rename_i hc
      simp at h; subst h
      cases hx with
      | slice hcb _ _ _ _ =>
        obtain ⟨cells,el,g1,g2⟩:=live_rd hS h1 hcb
        obtain ⟨vs,k1,k2,k3⟩:=((cellsAt_block g1 g2).drop off).take (m * n)
        have hl:=k1.1
        simp at hl
        refine ⟨vs,?_,k1,k3,by simp; omega⟩
        exact run_cells_list w _ _ vs (by omega) (fun j u hu => by rw [addr_add]; simpa using k2 j u hu)
    · cases h
  · rename_i l
    split at h
    · rename_i hc
      simp at h; subst h
      have len : ∀ k,k ≤ l.length→((l.take k).flatMap AV.cells).length = k * n:=by
        intro k
        induction k with
        | zero => simp
        | succ k ih =>
          intro hk
          have hu:=hc.2
          simp only [uniform,List.all_eq_true,beq_iff_eq] at hu
          rw [List.take_add_one,List.flatMap_append,List.length_append,ih (by omega),List.getElem?_eq_getElem (by omega)]
          simp [hu _ (List.getElem_mem _),Nat.add_mul]
      cases hx with
      | @immNil a cap =>
        have : m = 0:=by simpa using hc.1
        subst this
        refine ⟨[],?_,by simpa using VRs.nil,by simp,by simp⟩
        cases a <;> simp [Builtin.firstCells,loadCells,loadCellsFrom]
      | @imm _ n' c o cap cells el fr vs g1 g2 g3 g4 g5 g6 =>
        by_cases hm : m = 0
        · subst hm
          exact ⟨[],by simp [Builtin.firstCells,loadCells,loadCellsFrom],by simpa using VRs.nil,by simp,by simp⟩
        have hn : n' = n:=by
          have hu:=hc.2
          simp only [uniform,List.all_eq_true,beq_iff_eq] at hu
          rw [← g2 0 (by omega)]; exact hu _ (List.getElem_mem _)
        subst hn
        have key : ∀ k,k ≤ l.length→VRs G ((l.take k).flatMap AV.cells) ((List.range (k * n')).map fun j => vs (j / n') (j % n')):=by
          intro k
          induction k with
          | zero => intro _; simpa using VRs.nil
          | succ k ih =>
            intro hk
            have h1:=ih (by omega)
            have h2 : VRs G (l[k]'(by omega)).cells ((List.range n').map fun j => vs k j):=⟨by simp [g2 k (by omega)],fun i a b => by simpa using g6 k (by omega) i a⟩
            have h3:=h1.append h2
            rw [List.take_add_one,List.flatMap_append,List.getElem?_eq_getElem (by omega)]
            simp only [Option.toList_some,List.flatMap_cons,List.flatMap_nil,List.append_nil]
            rw [show (k + 1) * n' = k * n' + n' by rw [Nat.add_mul]; omega,List.range_add,List.map_append]
            have e : ((List.range n').map (k * n' + ·)).map (fun j => vs (j / n') (j % n')) = (List.range n').map fun j => vs k j:=by
              rw [List.map_map]
              apply List.map_congr_left
              intro j hj
              simp only [List.mem_range] at hj
              simp only [Function.comp_apply]
              rw [show (k * n' + j) / n' = k by rw [Nat.mul_comm,Nat.mul_add_div (by omega),Nat.div_eq_of_lt hj]; omega,show (k * n' + j) % n' = j by rw [Nat.mul_comm,Nat.mul_add_mod,Nat.mod_eq_of_lt hj]]
            rw [e]; exact h3
        have hk:=key m hc.1
        refine ⟨_,?_,hk,?_,len m hc.1⟩
        · refine run_cells_list w _ _ _ (by simp) (fun j u hu => ?_)
          have hj : j < m * n':=by have:=(List.getElem?_eq_some_iff.1 hu).1; simpa using this
          simp [hj] at hu
          subst hu
          have hn0 : 0 < n':=by
            rcases Nat.eq_zero_or_pos n' with h0 | h0
            · subst h0; omega
            · exact h0
          have d1 : j / n' < m:=(Nat.div_lt_iff_lt_mul hn0).2 hj
          have d2 : j % n' < n':=Nat.mod_lt _ hn0
          rw [addr_add,cell_of (hS.fz _ _ g1)]
          have:=g4 (j / n') (j % n') (by omega) d2
          rw [← this]
          congr 1
          have:=Nat.div_add_mod j n'
          rw [Nat.mul_comm] at this
          omega
        · intro u hu
          simp only [List.mem_map,List.mem_range] at hu
          obtain ⟨j,hj,rfl⟩:=hu
          have hn0 : 0 < n':=by
            rcases Nat.eq_zero_or_pos n' with h0 | h0
            · subst h0; omega
            · exact h0
          exact g5 _ _ (by have:=(Nat.div_lt_iff_lt_mul hn0).2 hj; omega) (Nat.mod_lt _ hn0)
    · cases h
  · split at h
    · rename_i hm
      simp at h; subst h hm
      rw [hx.sc_inv]
      exact ⟨[],by simp [Builtin.firstCells,Sc.val],VRs.nil,by simp,by simp⟩
    · cases h
  · rename_i s
    split at h
    · rename_i hc
      simp at h; subst h
      rw [hx.sc_inv]
      obtain ⟨hm,rfl⟩:=hc
      refine ⟨(s.data.toList.take m).map fun b => .int .u8 b.toNat,?_,by rw [← List.map_take]; exact VRs.map (f:=fun b : UInt8 => AV.sc (.int .u8 b.toNat)) (g:=fun b : UInt8 => Value.int .u8 b.toNat) _ fun b => .sc (.int .u8 b.toNat),?_,by simp; omega⟩
      · simp only [Builtin.firstCells,Sc.val,Sem.run_pure]
        congr 1
        apply Array.ext'
        rw [Array.toList_map,extract_list]
      · intro u hu
        simp only [List.mem_map] at hu
        obtain ⟨b,_,rfl⟩:=hu
        rfl
    · cases h
  · cases h
theorem alen_spec {P : Program} {G : Gh} {w : World} {x : AV} {x' : Value} (hx : VR G x x') {m : Nat} (h : alen x = some m) : (Builtin.lenOf x').run P w = .ok m w:=by
  unfold alen at h
  split at h <;> simp at h
  · subst h; cases hx; rfl
  · subst h; cases hx <;> rfl
  · subst h; rw [hx.sc_inv]; rfl
  · subst h; rw [hx.sc_inv]; rfl
theorem run_firstCells_pre {P : Program} {G : Gh} {cs : List AV} {w : World} {c n m : Nat} {cap : Nat} {cells : Array Value} {el : TypeId} (g1 : w.heap[c]? = some (.cells cells el (0,0)))
    (g2 : BR G (.cells cs) (.cells cells el (0,0))) (off : Nat) (h : off + m * n ≤ cs.length) : ∃ ys,(Builtin.firstCells n m (.slice (some ⟨c,off,none⟩) m cap)).run P w = .ok ys.toArray w ∧
      VRs G ((cs.drop off).take (m * n)) ys∧(∀ u ∈ ys,u.oneCell' = true)∧ys = (cells.toList.drop off).take (m * n):=by
  obtain ⟨vs,k1,k2,k3⟩:=((cellsAt_block g1 g2).drop off).take (m * n)
  have hl:=k1.1
  simp at hl
  have hsz : cs.length ≤ cells.size:=g2.2.1
  refine ⟨vs,run_cells_list w _ _ vs (by omega) (fun j u hu => by rw [addr_add]; simpa using k2 j u hu),k1,k3,?_⟩
  apply List.ext_getElem?
  intro j
  by_cases hj : j < vs.length
  · have:=k2 j (vs[j]) (by simp [hj])
    rw [cell_of g1] at this
    simp only [Nat.zero_add] at this
    rw [List.getElem?_take_of_lt (by omega),List.getElem?_drop]
    simp only [Array.getElem?_toList,this]
    simp [hj]
  · rw [List.getElem?_eq_none (by omega),List.getElem?_eq_none (by simp; omega)]
theorem nextcap_le (need old : Nat) (h : old < need) : Builtin.nextslicecap need old ≤ 2 * need + 1000:=by
  unfold Builtin.nextslicecap
  split
  · omega
  · split
    · omega
    · have : ∀ r c,c ≤ 2 * need + 1000→Builtin.growBy need r c ≤ 2 * need + 1000:=by
        intro r
        induction r with
        | zero => intro c hc; exact hc
        | succ r ih =>
          intro c hc
          simp only [Builtin.growBy]
          split
          · exact hc
          · exact ih _ (by omega)
      exact this 4 old (by omega)
theorem run_append_grow {P : Program} {w : World} {ts : Array TypeId} {sT xT e : TypeId} {d : TypeDesc} {i : TypeInfo} {zv : Value} (ty : TypeId) (ht0 : ts[0]? = some sT) (ht1 : ts[1]? = some xT)
    (hu : P.underlying sT = some (.slice e)) (hx : P.underlying xT = some d) (hd : (∃ e',d = .slice e') ∨ d = .string)
    (hi : P.info? e = some i) (hz : i.zero = some zv) (hb : i.bytes ≠ 0) {a : Option Addr} {len cap m : Nat} {x' : Value} {ys zs : List Value}
    (hm : (Builtin.lenOf x').run P w = .ok m w) (hold : (Builtin.firstCells i.size len (.slice a len cap)).run P w.drew = .ok ys.toArray w.drew)
    (hnew : (Builtin.firstCells i.size m x').run P w.drew = .ok zs.toArray w.drew) (hcap : cap < len + m) (hsz : (2 * (len + m) + 1000) * i.bytes ≤ 2 ^ 47)
    (hys : ys.length = len * i.size) (hzs : zs.length = m * i.size) (hzv : zv.cells.size = i.size) :
    ∃ cap' rest,len + m ≤ cap'∧(Builtin.append_ ts ty #[.slice a len cap,x']).run P w =
      .ok (.slice (some ⟨w.heap.size,0,none⟩) (len + m) cap') (w.drew.alloc (.cells ((ys ++ zs) ++ rest).toArray e (0,0)))∧0 + cap' * i.size ≤ ((ys ++ zs) ++ rest).toArray.size:=by
  have hnc:=nextcap_le (len + m) cap hcap
  have h1 : ¬ 281474976710656 < Builtin.nextslicecap (len + m) cap * i.bytes:=by
    have:=Nat.mul_le_mul_right i.bytes hnc
    have h2 : (2 : Nat) ^ 47 = 140737488355328:=by decide
    omega
  have hn : ¬ (len + m ≤ cap):=by omega
  have hsmall : len + m ≤ 2 ^ 47:=by
    have : (2 * (len + m) + 1000) * 1 ≤ (2 * (len + m) + 1000) * i.bytes:=Nat.mul_le_mul_left _ (by omega)
    omega
  have h63' : ¬ (9223372036854775807 < ((len : Int) + (m : Int))):=by omega
  refine ⟨grownCap w (len + m) cap e,(Builtin.zeroCells zv.cells (grownCap w (len + m) cap e - (len + m))).toList,grownCap_ge w (len + m) cap e,?_,by
    have:=grownCap_ge w (len + m) cap e
    have h3:=mul_split (n:=i.size) this
    rw [Nat.add_mul] at h3
    simp only [List.size_toArray,List.length_append,Array.length_toList,size_zeroCells,hys,hzs,hzv]
    omega⟩
  rcases hd with ⟨e',rfl⟩ | rfl
  · simp [Builtin.append_,ht0,ht1,run_underlying hu,run_underlying hx,sizeOf,typeInfo,zeroValue,hi,hz,hm,hn,h63',h1,Question.forced,hnew,hold,newRow,grownCap]
    congr 2
    apply Array.ext'
    simp
  · simp [Builtin.append_,ht0,ht1,run_underlying hu,run_underlying hx,sizeOf,typeInfo,zeroValue,hi,hz,hm,hn,h63',h1,Question.forced,hnew,hold,newRow,grownCap]
    congr 2
    apply Array.ext'
    simp
theorem run_append_room {P : Program} {w : World} {ts : Array TypeId} {sT xT e : TypeId} {d : TypeDesc} {i : TypeInfo} (ty : TypeId) (ht0 : ts[0]? = some sT) (ht1 : ts[1]? = some xT)
    (hu : P.underlying sT = some (.slice e)) (hx : P.underlying xT = some d) (hd : (∃ e',d = .slice e') ∨ d = .string)
    (hi : P.info? e = some i) {c off len cap m : Nat} {x' : Value} {zs : List Value} {cells : Array Value} {el : TypeId}
    (hm : (Builtin.lenOf x').run P w = .ok m w)
    (hnew : (Builtin.firstCells i.size m x').run P w = .ok zs.toArray w) (hcap : len + m ≤ cap) (hg : w.heap[c]? = some (.cells cells el (0,0))) (hfit : off + len * i.size + zs.length ≤ cells.size)
    (h1 : ∀ u ∈ zs,u.oneCell' = true) :
    (Builtin.append_ ts ty #[.slice (some ⟨c,off,none⟩) len cap,x']).run P w =
      .ok (.slice (some ⟨c,off,none⟩) (len + m) cap) (w.setRow c (cells.toList.take (off + len * i.size) ++ zs ++ cells.toList.drop (off + len * i.size + zs.length)).toArray):=by
  have hst:=run_storeCells_at P c (off + len * i.size) el zs 0 cells w hg (by simpa using hfit) h1
  simp only [Nat.add_zero] at hst
  rcases hd with ⟨e',rfl⟩ | rfl
  · simp [Builtin.append_,ht0,ht1,run_underlying hu,run_underlying hx,sizeOf,typeInfo,hi,hm,hcap,hnew,addr_add,hst]
  · simp [Builtin.append_,ht0,ht1,run_underlying hu,run_underlying hx,sizeOf,typeInfo,hi,hm,hcap,hnew,addr_add,hst]
theorem appArg_spec {P : Program} {xT : TypeId} (h : appArg P xT = true) : ∃ d,P.underlying xT = some d∧((∃ e',d = .slice e') ∨ d = .string):=by
  unfold appArg at h
  split at h
  · rename_i e he; exact ⟨_,he,.inl ⟨e,rfl⟩⟩
  · rename_i he; exact ⟨_,he,.inr rfl⟩
  · cases h
theorem Sim.drew {B : World} {G : Gh} {H : AHeap} {w : World} (h : Sim B G H w) : Sim B G H w.drew :=
  ⟨h.os,h.tape,h.output,h.size,h.base,h.fz,h.live,h.inj,h.nofz,h.rng,h.plain,h.sz,h.szr,h.frz⟩
theorem BR_grow {G : Gh} {cs xs : List AV} {cells : Array Value} {ys : List Value} {e : TypeId} {k : Nat} (h : BR G (.cells cs) (.cells cells e (0,0))) (r : VRs G xs ys) (hk : k ≤ cs.length)
    (h1 : ∀ u ∈ ys,u.oneCell' = true) : BR G (.cells (cs.take k ++ xs)) (.cells (cells.toList.take k ++ ys ++ cells.toList.drop (k + ys.length)).toArray e (0,0)):=by
  obtain ⟨_,hl,hc⟩:=h
  have h2 : VRs G (cs.take k) (cells.toList.take k):=⟨by simp; omega,fun i a b => by
    simp only [List.getElem_take,Array.getElem_toList]
    exact (hc i (by simp at a; omega) (by simp at b; omega)).1⟩
  refine BR_cells _ (h2.append r) (fun u hu => ?_)
  rcases List.mem_append.1 hu with h3 | h3
  · obtain ⟨i,hi,rfl⟩:=List.mem_iff_getElem.1 h3
    simp only [List.getElem_take,Array.getElem_toList]
    exact (hc i (by simp at hi; omega) (by simp at hi; omega)).2
  · exact h1 u h3
theorem hasTg_mem {T : TypeId} {b : Nat} : ∀ {l : List (Nat × Nat × TypeId)},hasTg T b l = true→(b,0,T) ∈ l
  | [],h => by cases h
  | (b',n,T') :: l,h => by
    simp only [hasTg,Bool.or_eq_true,Bool.and_eq_true,beq_iff_eq] at h
    rcases h with ⟨⟨rfl,rfl⟩,rfl⟩ | h
    · exact .head _
    · exact .tail _ (hasTg_mem h)
theorem aappend_sim2 {P : Program} {B : World} {G : Gh} {H : AHeap} {w : World} (hS : Sim B G H w) {ts : Array TypeId} (ty : TypeId) {s x : AV} {s' x' : Value} (hs : VR G s s') (hx : VR G x x') {e : Eff} (h : aappend P ts H s x = some e) :
    OpSim P G H w ((do pure (Next.value (← Builtin.append_ ts ty #[s',x'])) : Sem Next).run P w) e∧∀ T,(ts[0]?).bind (sliceElem P) = some T→OpSim P G H w ((do pure (Next.value (← Builtin.append_ ts ty #[s',x'])) : Sem Next).run P w) (tagA T H e):=by
  simp only [aappend,Option.bind_eq_bind,Option.bind_eq_some_iff] at h
  obtain ⟨sT,t0,xT,t1,el,h1,i,h2,z,h3,m,h4,xs,h5,h⟩:=h
  split at h
  · cases h
  rename_i hc
  simp only [not_or,ne_eq,Decidable.not_not,Bool.not_eq_false] at hc
  obtain ⟨c1,c2,c3,c4⟩:=hc
  have hu:=sliceElem_spec h1
  have hel : ∀ T,(ts[0]?).bind (sliceElem P) = some T→el = T:=fun T hT => by rw [t0] at hT; simp only [Option.bind_some] at hT; rw [h1] at hT; exact Option.some.inj hT
  obtain ⟨d,hd,hd'⟩:=appArg_spec c4
  obtain ⟨i',zv,g1,g2,g3⟩:=azero_spec h3
  rw [h2] at g1
  cases g1
  have hm : (Builtin.lenOf x').run P w = .ok m w:=alen_spec hx h4
  obtain ⟨ys,k1,k2,k3,k4⟩:=asrc_sim (P:=P) hS hx h5
  obtain ⟨ys',k1',k2',k3',_⟩:=asrc_sim (P:=P) hS.drew hx h5
  cases s <;> try (cases h; done)
  case sc sc =>
    cases sc <;> try (cases h; done)
    simp only at h
    rw [hs.sc_inv]
    split at h
    · rename_i hm0
      subst hm0
      simp at h; subst h
      have hys : ys = []:=by
        have:=k2.1; simp at k4; subst k4; exact List.eq_nil_of_length_eq_zero this.symm
      subst hys
      refine (fun A => ⟨A,fun _ _ => A⟩) ?_
      refine ⟨_,?_,.slice none 0 0,.sc .nils,.inl rfl⟩
      rcases hd' with ⟨e',rfl⟩ | rfl
      · simp [Builtin.append_,t0,t1,run_underlying hu,run_underlying hd,sizeOf,typeInfo,h2,hm,k1,Sc.val]
      · simp [Builtin.append_,t0,t1,run_underlying hu,run_underlying hd,sizeOf,typeInfo,h2,hm,k1,Sc.val]
    · rename_i hm0
      split at h
      · rename_i hsz
        simp at h; subst h
        obtain ⟨cap',rest,q1,q2,q3⟩:=run_append_grow (w:=w) (a:=none) (len:=0) (cap:=0) (ys:=[]) ty t0 t1 hu hd hd' h2 g2 c3 hm (by simp [Builtin.firstCells]) k1' (by omega) (by simpa using hsz) (by simp) (by have:=k2'.1; omega) (by have:=(of_cells (G:=G) g3).1; simp at this; omega)
        simp only [Nat.zero_add,List.nil_append] at q1 q2
        have hb:=BR_cells (e:=el) rest k2' k3'
        refine ⟨⟨_,_,_,by simp only [Sem.run_bind,Sc.val,q2,Result.andThen_ok,Sem.run_pure],push_alloc_drew w _,hb,rfl,fun b G' _ hb hs => .slice hb (Nat.le_refl _) q1 hs q3⟩,fun T hT => ?_⟩
        have hT:=hel T hT
        subst hT
        exact ⟨_,_,_,by simp only [Sem.run_bind,Sc.val,q2,Result.andThen_ok,Sem.run_pure],push_alloc_drew w _,hb,rfl,⟨_,rfl,fun k => absurd rfl k⟩,fun b G' _ hb hs => .slice hb (Nat.le_refl _) q1 hs q3⟩
      · cases h
  case slice b off len cap n =>
    simp only [Option.bind_eq_some_iff] at h
    obtain ⟨cs,h6,h⟩:=h
    split at h
    · cases h
    rename_i hn
    simp only [ne_eq,Decidable.not_not] at hn
    subst hn
    cases hs with
    | @slice _ _ _ _ _ c cap' sz hcb l1 l2 l3 l4 =>
      obtain ⟨cells,el',e1,e2,e3⟩:=live_cells hS h6 hcb
      have hlc : cs.length ≤ cells.size:=e2.2.1
      have hl:=k2.1
      split at h
      · rename_i hroom
        split at h
        · rename_i hfit
          simp at h; subst h
          have hfit' : off + len * i.size + xs.length ≤ cs.length:=by rw [k4]; rw [Nat.add_mul] at hfit; omega
          have hr:=run_append_room (w:=w) (off:=off) (len:=len) (cap:=cap') ty t0 t1 hu hd hd' h2 hm k1 (by omega) e1 (by omega) k3
          refine (fun A => ⟨A,fun _ _ => A⟩) ?_
          refine ⟨_,_,_,_,c,by simp only [Sem.run_bind,hr,Result.andThen_ok,Sem.run_pure],e3,hcb,at_setRow w c cells _ el' (0,0) e1,by simp [e1,Obj.csize]; omega,BR_splice e2 k2 hfit' k3,rfl,⟨_,.slice hcb hroom l2 l3 l4,.inl rfl⟩⟩
        · cases h
      · rename_i hroom
        split at h
        · rename_i hfit
          simp at h; subst h
          obtain ⟨rfl,f1,f2⟩:=hfit
          by_cases hcap : len + m ≤ cap'
          · have hsize : len * i.size + xs.length ≤ cells.size:=by
              obtain ⟨s',q1,q2⟩:=live_sz hS h6 hcb
              have hge : B.heap.size ≤ c:=by
                rcases Nat.lt_or_ge c B.heap.size with hlt | hge
                · have h4:=hS.nofz b _ c e3 hcb
                  rw [hS.base c hlt] at h4
                  simp at h4; omega
                · exact hge
              have q3:=hS.sz c _ hge e1
              rw [l3] at q3
              simp [Obj.csize] at q3
              have q4:=congrArg Prod.fst q3
              simp only at q4
              rw [k4,← Nat.add_mul]
              have:=Nat.mul_le_mul_right i.size hcap
              omega
            have hr:=run_append_room (w:=w) (off:=0) (len:=len) (cap:=cap') ty t0 t1 hu hd hd' h2 hm k1 hcap e1 (by omega) k3
            have hbr:=BR_grow e2 k2 f2 k3
            simp only [Nat.zero_add] at hr
            have hfin : ∃ z,((do pure (Next.value (← Builtin.append_ ts ty #[.slice (some ⟨c,0,none⟩) len cap',x'])) : Sem Next).run P w) = .ok (.value (.slice (some ⟨c,0,none⟩) (len + m) cap')) z∧z = w.setRow c (cells.toList.take (len * i.size) ++ ys ++ cells.toList.drop (len * i.size + ys.length)).toArray:=⟨_,by simp only [Sem.run_bind,hr,Result.andThen_ok,Sem.run_pure],rfl⟩
            obtain ⟨z,hfin,rfl⟩:=hfin
            refine ⟨⟨_,_,_,_,c,c,hfin,e3,hcb,.inl ⟨rfl,at_setRow w c cells _ el' (0,0) e1,by simp [e1,Obj.csize]; omega⟩,hbr,rfl,fun b' G' hx hb _ => .slice hb (Nat.le_refl _) hcap (hx.sz _ _ l3) l4⟩,fun T hT => ?_⟩
            show OpSim P G H w _ (if hasTg T b H.fr.tg = true then _ else _)
            by_cases htg : hasTg T b H.fr.tg = true
            · rw [if_pos htg]
              obtain ⟨c2,q1,n2,q2,_⟩:=hS.frz.tg _ _ (hasTg_mem htg)
              rw [hcb] at q1
              cases q1
              have hge : B.heap.size ≤ c:=by
                rcases Nat.lt_or_ge c B.heap.size with hlt | hge
                · have h4:=hS.nofz b _ c e3 hcb
                  rw [hS.base c hlt] at h4
                  simp at h4; omega
                · exact hge
              have q3:=hS.sz c _ hge e1
              rw [q2] at q3
              simp only [Obj.csize,Option.some.injEq,Prod.mk.injEq] at q3
              obtain ⟨_,rfl⟩:=q3
              exact ⟨_,_,_,_,c,c,hfin,e3,hcb,.inl ⟨rfl,at_setRow w c cells _ _ (0,0) e1,by simp [e1,Obj.csize]; omega⟩,hbr,rfl,⟨_,rfl,fun k => absurd rfl k⟩,fun b' G' hx hb _ => .slice hb (Nat.le_refl _) hcap (hx.sz _ _ l3) l4⟩
            · rw [if_neg htg]
              exact ⟨_,_,_,_,c,c,hfin,e3,hcb,.inl ⟨rfl,at_setRow w c cells _ el' (0,0) e1,by simp [e1,Obj.csize]; omega⟩,hbr,rfl,fun b' G' hx hb _ => .slice hb (Nat.le_refl _) hcap (hx.sz _ _ l3) l4⟩
          · have hpre:=run_firstCells_pre (P:=P) (n:=i.size) (m:=len) (cap:=cap') (w:=w.drew) (c:=c) (cells:=cells) (el:=el') e1 e2 0 (by omega)
            obtain ⟨ps,p1,p2,p3,_⟩:=hpre
            obtain ⟨cap'',rest,q1,q2,q3⟩:=run_append_grow (w:=w) (a:=some ⟨c,0,none⟩) (len:=len) (cap:=cap') ty t0 t1 hu hd hd' h2 g2 c3 hm p1 k1' (by omega) f1 (by have:=p2.1; simp at this; omega) (by have:=k2'.1; omega) (by have:=(of_cells (G:=G) g3).1; simp at this; omega)
            have hb:=BR_cells (e:=el) rest (p2.append k2') (fun u hu => (List.mem_append.1 hu).elim (p3 u) (k3' u))
            simp only [List.drop_zero] at hb
            refine ⟨⟨_,_,_,_,c,_,by simp only [Sem.run_bind,q2,Result.andThen_ok,Sem.run_pure],e3,hcb,.inr ⟨rfl,push_alloc_drew w _⟩,hb,rfl,fun b' G' _ hb hs => .slice hb (Nat.le_refl _) q1 hs q3⟩,fun T hT => ?_⟩
            have hT:=hel T hT
            subst hT
            show OpSim P G H w _ (if hasTg el b H.fr.tg = true then _ else _)
            by_cases htg : hasTg el b H.fr.tg = true
            · rw [if_pos htg]
              exact ⟨_,_,_,_,c,_,by simp only [Sem.run_bind,q2,Result.andThen_ok,Sem.run_pure],e3,hcb,.inr ⟨rfl,push_alloc_drew w _⟩,hb,rfl,⟨_,rfl,fun k => absurd rfl k⟩,fun b' G' _ hb hs => .slice hb (Nat.le_refl _) q1 hs q3⟩
            · rw [if_neg htg]
              exact ⟨_,_,_,_,c,_,by simp only [Sem.run_bind,q2,Result.andThen_ok,Sem.run_pure],e3,hcb,.inr ⟨rfl,push_alloc_drew w _⟩,hb,rfl,fun b' G' _ hb hs => .slice hb (Nat.le_refl _) q1 hs q3⟩
        · cases h
theorem aappend_sim {P : Program} {B : World} {G : Gh} {H : AHeap} {w : World} (hS : Sim B G H w) {ts : Array TypeId} (ty : TypeId) {s x : AV} {s' x' : Value} (hs : VR G s s') (hx : VR G x x') {e : Eff} (h : aappend P ts H s x = some e) :
    OpSim P G H w ((do pure (Next.value (← Builtin.append_ ts ty #[s',x'])) : Sem Next).run P w) e:=(aappend_sim2 hS ty hs hx h).1
end Go.Hem
