import Derived.Test.YtgappelpgocboaaGreatDoorHemD
import Derived.Laws.Tables
set_option linter.unusedSimpArgs false
set_option linter.unusedVariables false
namespace Go.Hem
theorem abound_spec {G : Gh} {t : List AV} {ρ : Operand→Value} (hρ : ∀ x,VR G (aev t x) (ρ x)) {x : Option Operand} {d n : Nat} (h : abound t x d = some n) :
    (x = none∧n = d) ∨ ∃ y k,x = some y∧ρ y = .int k n:=by
  cases x with
  | none => simp [abound] at h; exact .inl ⟨rfl,h.symm⟩
  | some y =>
    simp only [abound] at h
    obtain ⟨k,hk⟩:=asNat_spec h (hρ y)
    exact .inr ⟨y,k,rfl,hk⟩
theorem run_sliceBounds {P : Program} {w : World} (sl : Bool) {G : Gh} {t : List AV} {ρ : Operand→Value} (hρ : ∀ x,VR G (aev t x) (ρ x)) {lo hi : Option Operand} {len cap h l : Nat}
    (h1 : abound t hi len = some h) (h2 : abound t lo 0 = some l) (hl : l ≤ h) (hc : h ≤ cap) (hlen : hi = none→len ≤ cap) :
    (Instr.sliceBounds sl len cap (lo.map ρ) (hi.map ρ) none).run P w = .ok (l,h,cap) w:=by
  unfold Instr.sliceBounds
  rcases abound_spec hρ h1 with ⟨rfl,rfl⟩ | ⟨y,k,rfl,hy⟩ <;> rcases abound_spec hρ h2 with ⟨rfl,rfl⟩ | ⟨z,k',rfl,hz⟩
  · simp
  · simp [Instr.sliceBound,asIntOf,hz,hl]
  · simp [Instr.sliceBound,asIntOf,hy,hc]
  · simp [Instr.sliceBound,asIntOf,hy,hz,hc,hl]
theorem run_sliceBounds3 {P : Program} {w : World} (sl : Bool) {G : Gh} {t : List AV} {ρ : Operand→Value} (hρ : ∀ x,VR G (aev t x) (ρ x)) {lo : Option Operand} {hi mx : Operand} {len cap h l m : Nat}
    (h1 : asNat (aev t hi) = some h) (h2 : abound t lo 0 = some l) (h3 : asNat (aev t mx) = some m) (hl : l ≤ h) (hc : h ≤ m) (hm : m ≤ cap) :
    (Instr.sliceBounds sl len cap (lo.map ρ) (some (ρ hi)) (some (ρ mx))).run P w = .ok (l,h,m) w:=by
  unfold Instr.sliceBounds
  obtain ⟨k,hk⟩:=asNat_spec h1 (hρ hi)
  obtain ⟨k2,hk2⟩:=asNat_spec h3 (hρ mx)
  rcases abound_spec hρ h2 with ⟨rfl,rfl⟩ | ⟨z,k',rfl,hz⟩
  · simp [Instr.sliceBound,asIntOf,hk,hk2,hc,hm]
  · simp [Instr.sliceBound,asIntOf,hk,hk2,hz,hc,hl,hm]
theorem imm_cut {G : Gh} {xs : List AV} {a : Option Addr} {cap n l h : Nat} (r : VR G (.imm xs) (.slice a xs.length cap)) (hu : uniform n xs = true) (hl : l ≤ h) (hh : h ≤ xs.length) :
    VR G (.imm ((xs.take h).drop l)) (.slice (if cap = l then a else a.map (·.add (l * n))) (h - l) (cap - l)):=by
  by_cases he : h - l = 0
  · have : (xs.take h).drop l = []:=by apply List.drop_eq_nil_of_le; simp; omega
    rw [this,he]
    obtain ⟨ad,rfl⟩ : ∃ ad,a = some ad:=by cases r <;> exact ⟨_,rfl⟩
    split <;> exact .immNil
  · cases r with
    | immNil => simp at hh; omega
    | @imm _ m c o _ cells elem fr vs g1 g2 g3 g4 g5 g6 =>
      have hm : m = n:=by
        simp only [uniform,List.all_eq_true,beq_iff_eq] at hu
        rw [← g2 0 (by omega)]; exact hu _ (List.getElem_mem _)
      subst hm
      rw [if_neg (by omega)]
      have hlen : ((xs.take h).drop l).length = h - l:=by simp; omega
      have key : ∀ i (hi : i < ((xs.take h).drop l).length),((xs.take h).drop l)[i] = xs[l + i]'(by omega):=fun i hi => by simp [List.getElem_drop,List.getElem_take]
      have:=VR.imm (G:=G) (l:=(xs.take h).drop l) (n:=m) (c:=c) (o:=o + l * m) (cap:=cap - l) (fun i j => vs (l + i) j) g1 (fun i hi => by rw [key i hi]; exact g2 _ _) (by omega)
        (fun i j hi hj => by
          have:=g4 (l + i) j (by omega) hj
          rw [Nat.add_mul,← Nat.add_assoc] at this; exact this)
        (fun i j hi hj => g5 (l + i) j (by omega) hj)
        (fun i hi j hj => by
          have e:=key i hi
          have:=g6 (l + i) (by omega) j (by rw [← e]; exact hj)
          simpa [e] using this)
      rw [hlen] at this
      simpa [addr_add] using this
theorem mul_split {l c n : Nat} (h : l ≤ c) : l * n + (c - l) * n = c * n:=by
  rw [← Nat.add_mul]; congr 1; omega
theorem aslice3_sim {P : Program} {G : Gh} {w : World} {t : List AV} {ρ : Operand→Value} (hρ : ∀ x,VR G (aev t x) (ρ x)) {T : TypeId} {a v : AV} {a' : Value} {lo hi mx : Option Operand}
    (ha : VR G a a') (h : aslice3 P T t a lo hi mx = some v) : ∃ v',(Instr.sliceAt T a' (lo.map ρ) (hi.map ρ) (mx.map ρ)).run P w = .ok v' w∧VR G v v':=by
  unfold aslice3 at h
  split at h
  · rename_i b off len cap n'
    simp only [Option.bind_eq_some_iff] at h
    obtain ⟨e,h1,n,hn,h0,⟨y,rfl,h2⟩,l,h3,m,⟨z,rfl,h4⟩,h⟩:=h
    have hu:=sliceElem_spec h1
    split at h
    · rename_i hb
      cases ha with
      | @slice _ _ _ _ _ c cap' sz hc g1 g2 g3 g4 =>
        obtain ⟨b1,b2,b3⟩:=hb
        have hb:=run_sliceBounds3 (P:=P) (w:=w) true hρ (len:=len) (cap:=cap') h2 h3 h4 b1 b2 (by omega)
        have run : (Instr.sliceAt T (.slice (some ⟨c,off,none⟩) len cap') (lo.map ρ) ((some y).map ρ) ((some z).map ρ)).run P w =
            .ok (.slice (if m = l then some ⟨c,off,none⟩ else some ⟨c,off + l * n,none⟩) (h0 - l) (m - l)) w:=by
          simp [Instr.sliceAt,Instr.slice,run_und hu,hb,run_szOf hn,addr_add]
        refine ⟨_,run,?_⟩
        split at h
        · rename_i hlc
          simp at h; subst h
          rw [show h0 - l = 0 by omega,show m - l = 0 by omega,if_pos (by omega)]
          exact .slice hc (Nat.le_refl _) (Nat.le_refl _) g3 (by rw [Nat.zero_mul]; omega)
        · rename_i hlc
          split at h
          rotate_left
          · cases h
          rename_i hnn
          subst hnn
          simp at h; subst h
          rw [if_neg (by omega)]
          have hm:=mul_split (n:=n) (show l ≤ m by omega)
          have hm2 : m * n ≤ cap' * n:=Nat.mul_le_mul_right n (by omega)
          exact .slice hc (by omega) (Nat.le_refl _) g3 (by omega)
    · cases h
  · simp only [Option.bind_eq_some_iff] at h
    obtain ⟨e,h1,n,hn,h0,⟨y,rfl,h2⟩,l,h3,m,⟨z,rfl,h4⟩,h⟩:=h
    have hu:=sliceElem_spec h1
    split at h
    · rename_i hb
      simp at h; subst h
      obtain ⟨rfl,rfl,rfl⟩:=hb
      have hb:=run_sliceBounds3 (P:=P) (w:=w) true hρ (len:=0) (cap:=0) h2 h3 h4 (Nat.le_refl _) (Nat.le_refl _) (Nat.le_refl _)
      rw [ha.sc_inv]
      refine ⟨.slice none 0 0,?_,.sc .nils⟩
      simp [Instr.sliceAt,Instr.slice,run_und hu,Sc.val,hb,run_szOf hn]
    · cases h
  · cases h
theorem aslice_sim {P : Program} {B : World} {G : Gh} {H : AHeap} {w : World} (hS : Sim B G H w) {t : List AV} {ρ : Operand→Value} (hρ : ∀ x,VR G (aev t x) (ρ x)) {T : TypeId} {a v : AV} {a' : Value} {lo hi : Option Operand}
    (ha : VR G a a') (h : aslice P H T t a lo hi = some v) : ∃ v',(Instr.sliceAt T a' (lo.map ρ) (hi.map ρ) none).run P w = .ok v' w∧VR G v v':=by
  unfold aslice at h
  cases a <;> simp only [reduceCtorEq,Option.bind_eq_bind,Option.bind_eq_some_iff] at h
  case sc s =>
    cases s <;> simp only [reduceCtorEq,Option.bind_eq_bind,Option.bind_eq_some_iff] at h
    obtain ⟨e,h1,n,hn,h0,h2,l,h3,h⟩:=h
    split at h
    · rename_i hz
      simp at h; subst h
      obtain ⟨rfl,rfl⟩:=hz
      have hu:=sliceElem_spec h1
      have hb:=run_sliceBounds (P:=P) (w:=w) true hρ (len:=0) (cap:=0) h2 h3 (Nat.le_refl _) (Nat.le_refl _) (fun _ => Nat.le_refl _)
      rw [ha.sc_inv]
      refine ⟨.slice none 0 0,?_,.sc .nils⟩
      simp [Instr.sliceAt,Instr.slice,run_und hu,Sc.val,hb,run_szOf hn]
    · cases h
  case slice b off len cap n' =>
    obtain ⟨e,h1,n,hn,h0,h2,l,h3,h⟩:=h
    have hu:=sliceElem_spec h1
    split at h
    · rename_i hb
      cases ha with
      | @slice _ _ _ _ _ c cap' sz hc g1 g2 g3 g4 =>
        obtain ⟨b1,b2,rfl⟩:=hb
        have hb:=run_sliceBounds (P:=P) (w:=w) true hρ (len:=len) (cap:=cap') h2 h3 b1 (by omega) (fun _ => by omega)
        have run : (Instr.sliceAt T (.slice (some ⟨c,off,none⟩) len cap') (lo.map ρ) (hi.map ρ) none).run P w =
            .ok (.slice (if cap' = l then some ⟨c,off,none⟩ else some ⟨c,off + l * n,none⟩) (h0 - l) (cap' - l)) w:=by
          simp [Instr.sliceAt,Instr.slice,run_und hu,hb,run_szOf hn,addr_add]
        refine ⟨_,run,?_⟩
        split at h
        · rename_i hlc
          simp at h; subst h
          rw [show h0 - l = 0 by omega]; split <;> exact .immNil
        · rename_i hlc
          simp at h; subst h
          rw [if_neg (by omega)]
          have hm:=mul_split (n:=n) (show l ≤ cap' by omega)
          exact .slice hc (by omega) (by omega) g3 (by omega)
    · cases h
  case imm xs =>
    obtain ⟨e,h1,n,hn,h0,h2,l,h3,h⟩:=h
    have hu:=sliceElem_spec h1
    split at h
    · rename_i hb
      simp at h; subst h
      have hsh : ∃ ad cap',a' = .slice ad xs.length cap'∧xs.length ≤ cap':=by
        cases ha with
        | @immNil ad cap => exact ⟨ad,cap,rfl,Nat.zero_le _⟩
        | imm vs g1 g2 g3 g4 g5 g6 => exact ⟨_,_,rfl,g3⟩
      obtain ⟨ad,cap',rfl,hle⟩:=hsh
      have hb':=run_sliceBounds (P:=P) (w:=w) true hρ (len:=xs.length) (cap:=cap') h2 h3 hb.1 (by omega) (fun _ => hle)
      refine ⟨_,?_,imm_cut ha hb.2.2 hb.1 hb.2.1⟩
      simp [Instr.sliceAt,Instr.slice,run_und hu,hb',run_szOf hn]
    · cases h
  case ptr b off =>
    obtain ⟨⟨m,e⟩,h1,n,hn,h0,h2,l,h3,cs,h4,h⟩:=h
    have hu:=arrayOf_spec h1
    simp only at h h2
    split at h
    · rename_i hb
      cases ha with
      | @ptr _ _ c hc =>
        have hb':=run_sliceBounds (P:=P) (w:=w) false hρ (len:=m) (cap:=m) h2 h3 hb.1 hb.2.1 (fun _ => Nat.le_refl _)
        have run : (Instr.sliceAt T (.pointer (some ⟨c,off,none⟩)) (lo.map ρ) (hi.map ρ) none).run P w =
            .ok (.slice (some (if m = l then ⟨c,off,none⟩ else ⟨c,off + l * n,none⟩)) (h0 - l) (m - l)) w:=by
          simp [Instr.sliceAt,run_und hu,hb',run_szOf hn,addr_add,Instr.sureAddr]
        refine ⟨_,run,?_⟩
        split at h
        · rename_i hlc
          simp at h; subst h
          rw [show h0 - l = 0 by omega]; exact .immNil
        · rename_i hlc
          simp at h; subst h
          rw [if_neg (by omega)]
          obtain ⟨s,q1,q2⟩:=live_sz hS h4 hc
          have hm:=mul_split (n:=n) (show l ≤ m by omega)
          exact .slice hc (by omega) (by omega) q1 (by omega)
    · cases h
theorem part_sim {P : Program} {G : Gh} {w : World} {T : TypeId} {cs : List AV} {vs : List Value} {off : Nat} {v : AV} (r : VRs G cs vs) (h : aread P T cs off = some v) :
    ∃ v',(part T vs.toArray off).run P w = .ok v' w∧VR G v v':=by
  unfold aread at h
  simp only [Option.bind_eq_bind,Option.bind_eq_some_iff] at h
  obtain ⟨b,hb,hr⟩:=h
  unfold part
  rw [Sem.run_bind,run_isAgg hb]
  cases b with
  | true =>
    simp only [if_true,Option.bind_eq_some_iff] at hr
    obtain ⟨n,hn,hr⟩:=hr
    split at hr
    · rename_i hle
      simp at hr; subst hr
      have:=(r.drop off).take n
      refine ⟨.agg ((vs.drop off).take n).toArray,?_,.agg this.1 this.2⟩
      simp only [Result.andThen_ok,if_true,Sem.run_bind,run_szOf hn,Sem.run_pure]
      congr 2
      apply Array.ext'
      simp [List.take_drop]
    · cases hr
  | false =>
    simp only [Bool.false_eq_true,if_false] at hr
    obtain ⟨y,hy,hv⟩:=r.get hr
    refine ⟨y,?_,hv⟩
    simp [hy]
theorem afield_sim {P : Program} {G : Gh} {w : World} {s : TypeId} {f : Nat} {a v : AV} {a' : Value} (ha : VR G a a') (h : afield P s a f = some v) :
    ∃ v',(Instr.field s a' f).run P w = .ok v' w∧VR G v v':=by
  simp only [afield,Option.bind_eq_bind,Option.bind_eq_some_iff] at h
  obtain ⟨fs,h1,fd,h2,h⟩:=h
  cases a <;> simp only [reduceCtorEq] at h
  cases ha with
  | agg hl hv =>
    obtain ⟨v',g1,g2⟩:=part_sim (w:=w) ⟨hl,hv⟩ h
    refine ⟨v',?_,g2⟩
    simp [Instr.field,run_und (structOf_spec h1),h2,asAgg,g1]
theorem splice_len {cs : List AV} {off : Nat} {xs : List AV} (h : off + xs.length ≤ cs.length) : (splice cs off xs).length = cs.length:=by
  simp [splice]; omega
theorem VRs.splice {G : Gh} {cs xs : List AV} {vs ys : List Value} (off : Nat) (h : VRs G cs vs) (k : VRs G xs ys) : VRs G (splice cs off xs) (vs.take off ++ ys ++ vs.drop (off + ys.length)):=by
  unfold Hem.splice
  rw [← k.1]
  exact ((h.take off).append k).append (h.drop _)
theorem foldl_set (ys : List Value) : ∀ (off k : Nat) (vs : Array Value),off + k + ys.length ≤ vs.size →
    ((ys.zipIdx k).foldl (fun cs (c,j) => cs.setIfInBounds (off + j) c) vs).toList = vs.toList.take (off + k) ++ ys ++ vs.toList.drop (off + k + ys.length):=by
  induction ys with
  | nil => intro off k vs h; simp
  | cons y ys ih =>
    intro off k vs h
    simp only [List.zipIdx_cons,List.foldl_cons]
    rw [ih off (k + 1) (vs.setIfInBounds (off + k) y) (by simp at h ⊢; omega)]
    have hk : off + k < vs.toList.length:=by simp at h ⊢; omega
    have hk' : off + k < vs.size:=by simpa using hk
    simp only [Array.toList_setIfInBounds,List.length_cons]
    have e1 : (vs.toList.set (off + k) y).take (off + (k + 1)) = vs.toList.take (off + k) ++ [y]:=by
      rw [show off + (k + 1) = off + k + 1 by omega,List.take_add_one,List.take_set_of_le (by omega),List.getElem?_set_self hk]
      rfl
    have e2 : (vs.toList.set (off + k) y).drop (off + (k + 1) + ys.length) = vs.toList.drop (off + k + (ys.length + 1)):=by
      rw [List.drop_set_of_lt (by omega)]
      congr 1; omega
    rw [e1,e2]; simp
theorem fill_sim {G : Gh} {place place' : Nat→Option (Nat × Nat)} (hp : ∀ i x,place i = some x→place' i = some x) : ∀ {parts : List (Nat × AV)} {parts' : List (Nat × Value)} {cs out : List AV} {vs : List Value},
    parts.map (·.1) = parts'.map (·.1)→VRs G (parts.map (·.2)) (parts'.map (·.2))→VRs G cs vs→afill place cs parts = some out →
    ∃ vs',Instr.fill place' vs.toArray parts' = some vs'.toArray∧VRs G out vs'
  | [],parts',cs,out,vs,h1,h2,h3,h => by
    have : parts' = []:=by simpa using h1.symm
    subst this
    simp [afill] at h; subst h
    exact ⟨vs,rfl,h3⟩
  | (i,v) :: rest,parts',cs,out,vs,h1,h2,h3,h => by
    match parts',h1,h2 with
    | (j,y) :: rest',h1,h2 =>
      simp only [List.map_cons,List.cons.injEq] at h1 h2
      obtain ⟨rfl,h1⟩:=h1
      simp only [afill] at h
      split at h
      · cases h
      · rename_i off size hpl
        split at h
        · cases h
        · rename_i hc
          simp only [not_or,Nat.not_lt,ne_eq,Decidable.not_not,Bool.not_eq_false] at hc
          obtain ⟨c1,c2,c3⟩:=hc
          have hvy:=h2.head.cells c3
          have hl:=hvy.1
          have hsz : y.cells.size = size:=by simp at hl; omega
          have hlen:=h3.1
          simp only [Array.length_toList] at hl
          have hfold:=foldl_set y.cells.toList off 0 vs.toArray (by simp; omega)
          have:=fill_sim hp h1 h2.tail (h3.splice off hvy) h
          obtain ⟨vs',g1,g2⟩:=this
          refine ⟨vs',?_,g2⟩
          simp only [Instr.fill,hp _ _ hpl]
          rw [if_neg (by simp; omega)]
          rw [← g1]
          congr 1
          apply Array.ext'
          rw [← Array.foldl_toList,Array.toList_zipIdx]
          simpa using hfold
theorem parts_fst {t : List AV} {ρ : Operand→Value} (parts : Array (Nat × Operand)) : (parts.toList.map fun p => (p.1,aev t p.2)).map (·.1) = ((parts.map fun (i,x) => (i,ρ x)).toList).map (·.1):=by
  simp [Function.comp_def]
theorem VRs.map {α : Type} {G : Gh} {f : α→AV} {g : α→Value} (l : List α) (h : ∀ x,VR G (f x) (g x)) : VRs G (l.map f) (l.map g):=⟨by simp,fun i h1 h2 => by simpa using h _⟩
theorem parts_snd {G : Gh} {t : List AV} {ρ : Operand→Value} (hρ : ∀ x,VR G (aev t x) (ρ x)) (parts : Array (Nat × Operand)) :
    VRs G ((parts.toList.map fun p => (p.1,aev t p.2)).map (·.2)) (((parts.map fun (i,x) => (i,ρ x)).toList).map (·.2)):=by
  simp only [List.map_map,Array.toList_map]
  exact VRs.map _ fun x => hρ _
theorem of_cells {G : Gh} {v : Value} {z : AV} (h : AV.of? v = some z) : VRs G z.cells v.cells.toList:=by
  have one : ∀ {v : Value} {z : AV},AV.ofCell? v = some z→v.cells = #[v]→VRs G z.cells v.cells.toList:=fun {v z} h hv => by
    rw [hv]
    have:=ofCell_spec (G:=G) h
    simp only [AV.ofCell?,Option.map_eq_some_iff] at h
    obtain ⟨s,h1,rfl⟩:=h
    exact VRs.cons this VRs.nil
  have h0:=h
  unfold AV.of? at h
  split at h
  · rename_i cs
    simp only [Option.map_eq_some_iff] at h
    obtain ⟨x,h1,rfl⟩:=h
    exact ofCells_spec h1
  · have:=of_spec (G:=G) h0
    split at h
    · simp at h; subst h; exact VRs.cons this VRs.nil
    · simp only [Option.map_eq_some_iff] at h
      obtain ⟨x,h1,rfl⟩:=h
      exact VRs.cons this VRs.nil
  · rename_i h2 h3
    refine one h ?_
    cases v <;> first | rfl | exact absurd rfl (h2 _)
theorem abuild_sim {P : Program} {G : Gh} {w : World} {T : TypeId} {t : List AV} {ρ : Operand→Value} (hρ : ∀ x,VR G (aev t x) (ρ x)) {parts : Array (Nat × Operand)} {v : AV}
    (h : abuild P T (parts.toList.map fun p => (p.1,aev t p.2)) = some v) : ∃ v',(Instr.build T (parts.map fun (i,x) => (i,ρ x))).run P w = .ok v' w∧VR G v v':=by
  simp only [abuild,Option.bind_eq_bind,Option.bind_eq_some_iff] at h
  obtain ⟨z,h1,h⟩:=h
  obtain ⟨i,zv,g1,g2,g3⟩:=azero_spec h1
  have hz:=of_cells (G:=G) g3
  have p1:=parts_fst (t:=t) (ρ:=ρ) parts
  have p2:=parts_snd hρ parts
  split at h
  · rename_i fs hu
    simp only [Option.bind_eq_some_iff,Option.map_eq_some_iff] at h
    obtain ⟨ps,h2,out,h3,rfl⟩:=h
    obtain ⟨vs',f1,f2⟩:=fill_sim (place':=fun i => ps.toArray[i]?) (fun i x hx => by simpa using hx) p1 p2 hz h3
    refine ⟨.agg vs'.toArray,?_,.agg f2.1 f2.2⟩
    simp [Instr.build,run_zeroV g1 g2,run_und hu,Array.mapM_eq_mapM_toList,run_places w _ _ h2] at f1 ⊢
    simp [f1]
  · rename_i n e hu
    simp only [Option.bind_eq_some_iff,Option.map_eq_some_iff] at h
    obtain ⟨m,h2,out,h3,rfl⟩:=h
    obtain ⟨vs',f1,f2⟩:=fill_sim (place':=fun i => some (i * m,m)) (fun i x hx => hx) p1 p2 hz h3
    refine ⟨.agg vs'.toArray,?_,.agg f2.1 f2.2⟩
    simp [Instr.build,run_zeroV g1 g2,run_und hu,run_szOf h2] at f1 ⊢
    simp [f1]
  · cases h
theorem rep_eq (n : Nat) (z : Array Value) : ((List.replicate n z.toList).flatten) = ((Array.range (n * z.size)).map (z[· % z.size]!)).toList:=by
  induction n with
  | zero => simp
  | succ n ih =>
    by_cases h0 : z.size = 0
    · have : z = #[]:=by simpa using h0
      subst this; simp
    rw [List.replicate_succ',List.flatten_append,ih]
    apply List.ext_getElem?
    intro i
    simp only [Array.toList_map,Array.toList_range,List.flatten_cons,List.flatten_nil,List.append_nil]
    by_cases hi : i < n * z.size
    · rw [List.getElem?_append_left (by simpa using hi)]
      simp [hi,show i < (n + 1) * z.size by rw [Nat.add_mul]; omega]
    · rw [List.getElem?_append_right (by simpa using hi)]
      simp only [List.length_map,List.length_range,List.getElem?_map]
      by_cases hj : i < (n + 1) * z.size
      · rw [List.getElem?_range hj]
        rw [Nat.add_mul] at hj
        have : i % z.size = i - n * z.size:=by
          rw [show i = z.size * n + (i - n * z.size) by rw [Nat.mul_comm]; omega,Nat.mul_add_mod_self_left]
          rw [Nat.mul_comm z.size n]
          rw [Nat.mod_eq_of_lt (by omega)]; omega
        simp [this,show i - n * z.size < z.size by omega]
      · rw [List.getElem?_eq_none (by rw [Nat.add_mul] at hj; simp; omega),List.getElem?_eq_none (by simpa using hj)]
        rfl
theorem BR_cells {G : Gh} {cs : List AV} {vs : List Value} {e : TypeId} (rest : List Value) (h : VRs G cs vs) (h1 : ∀ u ∈ vs,u.oneCell' = true) : BR G (.cells cs) (.cells (vs ++ rest).toArray e (0,0)):=by
  have hl:=h.1
  refine ⟨rfl,by simp; omega,fun j a b => ?_⟩
  have : (vs ++ rest).toArray[j]'b = vs[j]'(by omega):=by simp [List.getElem_append_left (show j < vs.length by omega)]
  rw [this]
  exact ⟨h.2 j a _,h1 _ (List.getElem_mem _)⟩
theorem ones_rep {z : List AV} (h : AV.ones z = true) : ∀ n,AV.ones (rep n z) = true
  | 0 => rfl
  | n + 1 => by
    have:=ones_rep h n
    simp only [AV.ones,rep,List.all_append,Bool.and_eq_true] at this h ⊢
    exact ⟨h,this⟩
theorem ones_splice {cs xs : List AV} {off : Nat} (h : AV.ones cs = true) (k : AV.ones xs = true) : AV.ones (splice cs off xs) = true:=by
  simp only [AV.ones,splice,List.all_append,Bool.and_eq_true,List.all_eq_true] at *
  exact ⟨⟨fun x hx => h x (List.mem_of_mem_take hx),k⟩,fun x hx => h x (List.mem_of_mem_drop hx)⟩
theorem ones_fill {place : Nat→Option (Nat × Nat)} : ∀ {parts : List (Nat × AV)} {cs out : List AV},AV.ones cs = true→afill place cs parts = some out→AV.ones out = true
  | [],cs,out,h,e => by simp [afill] at e; subst e; exact h
  | (i,v) :: rest,cs,out,h,e => by
    simp only [afill] at e
    split at e
    · cases e
    · split at e
      · cases e
      · rename_i hc
        simp only [not_or,Bool.not_eq_false] at hc
        exact ones_fill (ones_splice h hc.2.2) e
theorem len_rep (z : List AV) : ∀ n,(rep n z).length = n * z.length
  | 0 => by simp [rep]
  | n + 1 => by simp [rep,len_rep z n,Nat.add_mul]; omega
theorem len_fill {place : Nat→Option (Nat × Nat)} : ∀ {parts : List (Nat × AV)} {cs out : List AV},afill place cs parts = some out→out.length = cs.length
  | [],cs,out,e => by simp [afill] at e; subst e; rfl
  | (i,v) :: rest,cs,out,e => by
    simp only [afill] at e
    split at e
    · cases e
    · split at e
      · cases e
      · rename_i hc
        simp only [not_or,Nat.not_lt] at hc
        rw [len_fill e,splice_len hc.2.1]
theorem abuildSlice_sim {P : Program} {G : Gh} {H : AHeap} {w : World} {T : TypeId} {len : Nat} {t : List AV} {ρ : Operand→Value} (hρ : ∀ x,VR G (aev t x) (ρ x)) {parts : Array (Nat × Operand)} {e : Eff}
    (h : abuildSlice P T len (parts.toList.map fun p => (p.1,aev t p.2)) = some e) :
    OpSim P G H w ((do pure (Next.value (← Instr.buildSlice T len (parts.map fun (i,x) => (i,ρ x)))) : Sem Next).run P w) e:=by
  simp only [abuildSlice,Option.bind_eq_bind,Option.bind_eq_some_iff] at h
  obtain ⟨el,h1,n,h2,h⟩:=h
  have hu:=sliceElem_spec h1
  split at h
  · cases h
  rename_i hbig
  split at h
  · rename_i h0
    split at h
    · rename_i hp
      simp at h; subst h
      have hp' : parts = #[]:=by simpa using hp
      subst hp'
      have hz : Array.map (fun (_ : Nat) => (default : Value)) (Array.range 0) = #[]:=by simp
      refine ⟨_,w.alloc (.cells #[] el (0,0)),.cells #[] el (0,0),by simp [Instr.buildSlice,run_und hu,run_szOf h2,hbig,h0,Instr.fill,newRow]; rw [hz],push_alloc w _,⟨rfl,by simp,fun j a => by simp at a⟩,rfl,fun b G' _ hb hs => .slice hb (Nat.le_refl _) (Nat.le_refl _) hs (by simp [h0])⟩
    · cases h
  · rename_i h0
    simp only [Option.bind_eq_some_iff] at h
    obtain ⟨z,h3,h⟩:=h
    split at h
    · cases h
    rename_i hz
    simp only [not_or,ne_eq,Decidable.not_not,Bool.not_eq_false] at hz
    simp only [Option.bind_eq_some_iff] at h
    obtain ⟨cs,h4,h⟩:=h
    simp at h; subst h
    obtain ⟨i,zv,g1,g2,g3⟩:=azero_spec h3
    have hzc:=of_cells (G:=G) g3
    have hzl : zv.cells.size = n:=by have:=hzc.1; simp at this; omega
    have hrep:=hzc.rep len
    rw [rep_eq,hzl] at hrep
    obtain ⟨vs',f1,f2⟩:=fill_sim (place':=fun i => some (i * n,n)) (fun i x hx => hx) (parts_fst (t:=t) (ρ:=ρ) parts) (parts_snd hρ parts) hrep h4
    have hones:=ones_fill (ones_rep hz.2 len) h4
    have hb:=BR_cells (e:=el) [] f2 (f2.ones hones)
    simp only [List.append_nil] at hb
    refine ⟨_,_,.cells vs'.toArray el (0,0),?_,push_alloc w _,hb,rfl,fun b G' _ hb hs => .slice hb (Nat.le_refl _) (Nat.le_refl _) hs (by
      have:=f2.1
      rw [len_fill h4,len_rep,hz.1] at this
      simp; omega)⟩
    simp only [Array.toArray_toList] at f1
    simp [Instr.buildSlice,run_und hu,run_szOf h2,hbig,h0,run_zeroV g1 g2,hzl,f1,newRow] at f1 ⊢
    simp [f1]
end Go.Hem
