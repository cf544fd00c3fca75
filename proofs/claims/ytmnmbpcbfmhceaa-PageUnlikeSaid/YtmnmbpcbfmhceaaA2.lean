/-
  The small machine's code of functions of the program, as a program of mine printed it; each is checked against the loaded function.
-/
import Derived.Test.YtmnmbpcbfmhceaaEng25
import Derived.Test.YtmnmbpcbfmhceaaProg
set_option linter.unusedVariables false
namespace Go.Eng
open Go.Proofs

def k148_0 : List AO := [o1 1 (.bx 224 (.t 0)), o1 2 (.mv (.k (.c (c32 0))))]
def k148_1 : List AO := [o1 3 (.sla 224 1 (.t 1) (some (.k (.c (.p (.int .i64 3))))) (some (.k (.c (.p (.int .i64 7)))))), o1 4 (.cpy 1 (.t 3) (.k (.c (.p (.string (str [0, 0, 0, 0]))))))]
def k148_2 : List AO := [o1 5 (.sla 224 1 (.t 1) none none), o1 6 (.cvs (.t 5)), o1 7 (.callp 105 [(.t 6)]), o1 2 (.mv (.t 7))]
def k148 : AC := (.seq (.reg k148_0) (.seq (.reg k148_1) (.seq (.reg k148_2) .ret)))
def F148 : AFn := ⟨1, 8, k148, [(.t 2)]⟩
theorem F148_ok : cfn Try.prog [26,27,28,29,32,34,36,37,38,39,41,42,50,51,52,53,54,55,56,57,58,59,60,61,62,63,64,65,66,67,68,69,70,71,72,73,74,75,76,77,78,79,80,83,84,85,86,87,88,89,99,100,101,102,103,104,105,108,110,112,113,114,115,116,117,118,119,120,121,122,123,124,125,126,128,129,131,132,133,134,135,136,137,138,139,140,143,144,146,147,148,149,150,151,152,153,156,157,158,159,160,161,162] Try.f148 = some F148 := by kernel_rfl
theorem f148_at : Try.prog.funcs[148]? = some Try.f148 := by kernel_rfl
theorem f148_fn : okFn Try.prog 148 = true := by kernel_rfl

def k117_0 : List AO := [o1 7 (.bx 224 (.t 3)), o1 8 (.al (rep 224 (b8 0)))]
def k117_1 : List AO := [o1 9 (.mv (.t 0)), o1 10 (.ia 224 1 (.t 7) (.k (.c (.p (.int .i64 0))))), o0 (.st 1 (.t 10) (.t 9))]
def k117_2 : List AO := [o1 11 (.sla 224 1 (.t 7) (some (.k (.c (.p (.int .i64 1))))) none), o1 12 (.mv (.t 1)), o1 13 (.cvi .u64 (.t 12)), o1 14 (.callp 104 [(.t 13), (.k (.c (.p (.int .i64 2))))]), o1 15 (.cpy 1 (.t 11) (.t 14))]
def k117_3 : List AO := [o1 16 (.sla 224 1 (.t 7) (some (.k (.c (.p (.int .i64 7))))) none), o1 17 (.mv (.t 2)), o1 18 (.callp 104 [(.t 17), (.k (.c (.p (.int .i64 8))))]), o1 19 (.cpy 1 (.t 16) (.t 18))]
def k117_4 : List AO := [o1 20 (.sla 224 1 (.t 7) (some (.k (.c (.p (.int .i64 3))))) none), o1 21 (.ld (some 224) (.t 7)), o1 22 (.callp 148 [(.t 21)]), o1 23 (.cvi .u64 (.t 22)), o1 24 (.callp 104 [(.t 23), (.k (.c (.p (.int .i64 4))))]), o1 25 (.cpy 1 (.t 20) (.t 24))]
def k117_5 : List AO := [o1 26 (.ld (some 224) (.t 7)), o0 (.st 224 (.t 8) (.t 26))]
def k117 : AC := (.seq (.reg k117_0) (.seq (.reg k117_1) (.seq (.reg k117_2) (.seq (.reg k117_3) (.seq (.reg k117_4) (.seq (.reg k117_5) .ret))))))
def F117 : AFn := ⟨4, 27, k117, [(.c 8 (some 224))]⟩
theorem F117_ok : cfn Try.prog [26,27,28,29,32,34,36,37,38,39,41,42,50,51,52,53,54,55,56,57,58,59,60,61,62,63,64,65,66,67,68,69,70,71,72,73,74,75,76,77,78,79,80,83,84,85,86,87,88,89,99,100,101,102,103,104,105,108,110,112,113,114,115,116,117,118,119,120,121,122,123,124,125,126,128,129,131,132,133,134,135,136,137,138,139,140,143,144,146,147,148,149,150,151,152,153,156,157,158,159,160,161,162] Try.f117 = some F117 := by kernel_rfl
theorem f117_at : Try.prog.funcs[117]? = some Try.f117 := by kernel_rfl
theorem f117_fn : okFn Try.prog 117 = true := by kernel_rfl

def k114_0 : List AO := [o1 5 (.bx 224 (.t 2)), o1 6 (.mv (.k (.c (.p (.bool false)))))]
def k114_1 : List AO := [o1 12 (.sla 224 1 (.t 5) none none), o1 13 (.cvs (.t 12)), o1 14 (.callp 115 [(.t 13), (.k (.c (.p (.int .i64 1)))), (.k (.c (.p (.int .i64 2))))]), o1 11 (.mv (.t 14)), o1 15 (.ex 0 (.t 11)), o1 16 (.ex 1 (.t 11)), o1 7 (.mv (.t 15)), o1 8 (.mv (.t 16))]
def k114_2 : List AO := [o1 18 (.sla 224 1 (.t 5) none none), o1 19 (.cvs (.t 18)), o1 20 (.callp 115 [(.t 19), (.k (.c (.p (.int .i64 3)))), (.k (.c (.p (.int .i64 4))))]), o1 17 (.mv (.t 20)), o1 21 (.ex 0 (.t 17)), o1 22 (.ex 1 (.t 17)), o1 9 (.mv (.t 21)), o1 10 (.mv (.t 22))]
def k114_3 : List AO := [o1 23 (.ia 224 1 (.t 5) (.k (.c (.p (.int .i64 0))))), o1 24 (.ld none (.t 23)), o1 25 (.mv (.t 0)), o1 26 (.cmp .eq (.t 24) (.t 25)), o1 27 (.mv (.t 26)), og 28 27 true (.mv (.t 7)), og 29 27 true (.mv (.t 1)), og 30 27 true (.cvi .u64 (.t 29)), og 31 27 true (.cmp .eq (.t 28) (.t 30)), o1 32 (.pk (.t 27) (.t 31) (.k (.c (.p (.bool false))))), o1 33 (.mv (.t 32)), og 34 33 true (.mv (.t 9)), og 35 33 true (.ld (some 224) (.t 5)), og 36 33 true (.callp 148 [(.t 35)]), og 37 33 true (.cvi .u64 (.t 36)), og 38 33 true (.cmp .eq (.t 34) (.t 37)), o1 39 (.pk (.t 33) (.t 38) (.k (.c (.p (.bool false))))), o1 6 (.mv (.t 39))]
def k114 : AC := (.seq (.reg k114_0) (.seq (.reg k114_1) (.seq (.reg k114_2) (.seq (.reg k114_3) .ret))))
def F114 : AFn := ⟨3, 40, k114, [(.t 6)]⟩
theorem F114_ok : cfn Try.prog [26,27,28,29,32,34,36,37,38,39,41,42,50,51,52,53,54,55,56,57,58,59,60,61,62,63,64,65,66,67,68,69,70,71,72,73,74,75,76,77,78,79,80,83,84,85,86,87,88,89,99,100,101,102,103,104,105,108,110,112,113,114,115,116,117,118,119,120,121,122,123,124,125,126,128,129,131,132,133,134,135,136,137,138,139,140,143,144,146,147,148,149,150,151,152,153,156,157,158,159,160,161,162] Try.f114 = some F114 := by kernel_rfl
theorem f114_at : Try.prog.funcs[114]? = some Try.f114 := by kernel_rfl
theorem f114_fn : okFn Try.prog 114 = true := by kernel_rfl

def k57_0 : List AO := [o1 1 (.bx 224 (.t 0)), o1 2 (.mv (.k (.c (c64 0))))]
def k57_1 : List AO := [o1 6 (.sla 224 1 (.t 1) none none), o1 7 (.cvs (.t 6)), o1 8 (.callp 115 [(.t 7), (.k (.c (.p (.int .i64 7)))), (.k (.c (.p (.int .i64 8))))]), o1 5 (.mv (.t 8)), o1 9 (.ex 0 (.t 5)), o1 10 (.ex 1 (.t 5)), o1 3 (.mv (.t 9)), o1 4 (.mv (.t 10))]
def k57_2 : List AO := [o1 11 (.mv (.t 3)), o1 2 (.mv (.t 11))]
def k57 : AC := (.seq (.reg k57_0) (.seq (.reg k57_1) (.seq (.reg k57_2) .ret)))
def F57 : AFn := ⟨1, 12, k57, [(.t 2)]⟩
theorem F57_ok : cfn Try.prog [26,27,28,29,32,34,36,37,38,39,41,42,50,51,52,53,54,55,56,57,58,59,60,61,62,63,64,65,66,67,68,69,70,71,72,73,74,75,76,77,78,79,80,83,84,85,86,87,88,89,99,100,101,102,103,104,105,108,110,112,113,114,115,116,117,118,119,120,121,122,123,124,125,126,128,129,131,132,133,134,135,136,137,138,139,140,143,144,146,147,148,149,150,151,152,153,156,157,158,159,160,161,162] Try.f57 = some F57 := by kernel_rfl
theorem f57_at : Try.prog.funcs[57]? = some Try.f57 := by kernel_rfl
theorem f57_fn : okFn Try.prog 57 = true := by kernel_rfl

def k55_0 : List AO := [o1 3 (.bx 68 (.t 1)), o1 4 (.al (rep 224 (b8 0)))]
def k55_1 : List AO := [o1 5 (.al (rep 224 (b8 0)))]
def k55_2 : List AO := [o1 6 (.sla 224 1 (.t 5) (some (.k (.c (.p (.int .i64 15))))) none), o1 7 (.fa 1 1 (.t 3)), o1 8 (.ld none (.t 7)), o1 9 (.cvi .u64 (.t 8)), o1 10 (.callp 104 [(.t 9), (.k (.c (.p (.int .i64 4))))]), o1 11 (.cpy 1 (.t 6) (.t 10))]
def k55_3 : List AO := [o1 12 (.sla 224 1 (.t 5) (some (.k (.c (.p (.int .i64 19))))) none), o1 13 (.fa 2 2 (.t 3)), o1 14 (.fa 0 1 (.t 13)), o1 15 (.ld none (.t 14)), o1 16 (.cvi .u64 (.t 15)), o1 17 (.callp 104 [(.t 16), (.k (.c (.p (.int .i64 2))))]), o1 18 (.cpy 1 (.t 12) (.t 17))]
def k55_4 : List AO := [o1 19 (.fa 2 2 (.t 3)), o1 20 (.fa 1 1 (.t 19)), o1 21 (.ld none (.t 20)), o1 22 (.ia 224 1 (.t 5) (.k (.c (.p (.int .i64 21))))), o0 (.st 1 (.t 22) (.t 21))]
def k55_5 : List AO := [o1 23 (.sla 224 1 (.t 5) (some (.k (.c (.p (.int .i64 22))))) none), o1 24 (.fa 4 64 (.t 3)), o1 25 (.sla 64 1 (.t 24) none none), o1 26 (.cpy 1 (.t 23) (.t 25))]
def k55_6 : List AO := [o1 27 (.mv (.t 0)), o1 28 (.fa 0 1 (.t 3)), o1 29 (.ld none (.t 28)), o1 30 (.ld (some 224) (.t 5)), o1 31 (.callp 117 [(.k (.c (b8 1))), (.t 27), (.t 29), (.t 30)]), o0 (.st 224 (.t 4) (.t 31))]
def k55 : AC := (.seq (.reg k55_0) (.seq (.reg k55_1) (.seq (.reg k55_2) (.seq (.reg k55_3) (.seq (.reg k55_4) (.seq (.reg k55_5) (.seq (.reg k55_6) .ret)))))))
def F55 : AFn := ⟨2, 32, k55, [(.c 4 (some 224))]⟩
theorem F55_ok : cfn Try.prog [26,27,28,29,32,34,36,37,38,39,41,42,50,51,52,53,54,55,56,57,58,59,60,61,62,63,64,65,66,67,68,69,70,71,72,73,74,75,76,77,78,79,80,83,84,85,86,87,88,89,99,100,101,102,103,104,105,108,110,112,113,114,115,116,117,118,119,120,121,122,123,124,125,126,128,129,131,132,133,134,135,136,137,138,139,140,143,144,146,147,148,149,150,151,152,153,156,157,158,159,160,161,162] Try.f55 = some F55 := by kernel_rfl
theorem f55_at : Try.prog.funcs[55]? = some Try.f55 := by kernel_rfl
theorem f55_fn : okFn Try.prog 55 = true := by kernel_rfl

def k53_0 : List AO := [o1 3 (.bx 224 (.t 1)), o1 4 (.al ([(c64 0), (c32 0), (c16 0)] ++ rep 65 (b8 0))), o1 5 (.mv (.k (.c (.p (.int .i64 0)))))]
def k53_1 : List AO := [o1 14 (.mv (.t 0)), o1 15 (.ld (some 224) (.t 3)), o1 16 (.callp 114 [(.k (.c (b8 1))), (.t 14), (.t 15)]), o1 17 (.not (.t 16))]
def k53_2 : List AO := [o1 18 (.bd ([(c64 0), (c32 0), (c16 0)] ++ rep 65 (b8 0)) []), o0 (.st 68 (.t 4) (.t 18)), o1 5 (.mv (.k (.c (.p (.int .i64 2)))))]
def k53_3 : List AO := [o1 19 (.sla 224 1 (.t 3) (some (.k (.c (.p (.int .i64 86))))) none), o1 20 (.ln (.t 19)), o1 21 (.mv (.k (.c (.p (.int .i64 0)))))]
def k53_4 : List AO := [o1 22 (.cmp .lt (.t 21) (.t 20))]
def k53_5 : List AO := [o1 23 (.is 1 (.t 19) (.t 21)), o1 24 (.ld none (.t 23)), o1 7 (.mv (.t 24))]
def k53_6 : List AO := [o1 25 (.mv (.t 7)), o1 26 (.cmp .ne (.t 25) (.k (.c (b8 0))))]
def k53_7 : List AO := [o1 27 (.bd ([(c64 0), (c32 0), (c16 0)] ++ rep 65 (b8 0)) []), o0 (.st 68 (.t 4) (.t 27)), o1 5 (.mv (.k (.c (.p (.int .i64 2)))))]
def k53_8 : List AO := [o1 28 (.ari .add (.t 21) (.k (.c (.p (.int .i64 1))))), o1 21 (.mv (.t 28))]
def k53_9 : List AO := [o1 29 (.sla 224 1 (.t 3) none none), o1 30 (.cvs (.t 29)), o1 8 (.mv (.t 30))]
def k53_10 : List AO := [o1 31 (.ld (some 224) (.t 3)), o1 32 (.callp 57 [(.t 31)]), o1 33 (.bd ([(c64 0), (c32 0), (c16 0)] ++ rep 65 (b8 0)) [(0, (1, (.t 32)))]), o1 9 (.al ([(c64 0), (c32 0), (c16 0)] ++ rep 65 (b8 0))), o0 (.st 68 (.t 9) (.t 33))]
def k53_11 : List AO := [o1 35 (.mv (.t 8)), o1 36 (.callp 115 [(.t 35), (.k (.c (.p (.int .i64 15)))), (.k (.c (.p (.int .i64 4))))]), o1 34 (.mv (.t 36)), o1 37 (.ex 0 (.t 34)), o1 38 (.ex 1 (.t 34)), o1 10 (.mv (.t 37)), o1 11 (.mv (.t 38))]
def k53_12 : List AO := [o1 40 (.mv (.t 8)), o1 41 (.callp 115 [(.t 40), (.k (.c (.p (.int .i64 19)))), (.k (.c (.p (.int .i64 2))))]), o1 39 (.mv (.t 41)), o1 42 (.ex 0 (.t 39)), o1 43 (.ex 1 (.t 39)), o1 12 (.mv (.t 42)), o1 13 (.mv (.t 43))]
def k53_13 : List AO := [o1 44 (.mv (.t 10)), o1 45 (.cvi .u32 (.t 44)), o1 46 (.fa 1 1 (.t 9)), o0 (.st 1 (.t 46) (.t 45))]
def k53_14 : List AO := [o1 47 (.mv (.t 12)), o1 48 (.cvi .u16 (.t 47)), o1 49 (.ia 224 1 (.t 3) (.k (.c (.p (.int .i64 21))))), o1 50 (.ld none (.t 49)), o1 51 (.bd [(c16 0), (b8 0)] [(0, (1, (.t 48))), (1, (1, (.t 50)))]), o1 52 (.fa 2 2 (.t 9)), o0 (.st 2 (.t 52) (.t 51))]
def k53_15 : List AO := [o1 53 (.fa 4 64 (.t 9)), o1 54 (.sla 64 1 (.t 53) none none), o1 55 (.sla 224 1 (.t 3) (some (.k (.c (.p (.int .i64 22))))) none), o1 56 (.cpy 1 (.t 54) (.t 55))]
def k53_16 : List AO := [o1 57 (.ld (some 68) (.t 9)), o0 (.st 68 (.t 4) (.t 57)), o1 5 (.mv (.k (.c (.p (.int .i64 0)))))]
def k53 : AC := (.seq (.reg k53_0) (.seq (.seq (.reg k53_1) (.cond (.t 17) (.seq (.reg k53_2) .ret) .skip)) (.seq (.seq (.reg k53_3) (.block 0 (.loop (.seq (.reg k53_4) (.seq (.cond (.t 22) .skip (.exit 0)) (.seq (.block 1 (.seq (.reg k53_5) (.seq (.reg k53_6) (.cond (.t 26) (.seq (.reg k53_7) .ret) .skip)))) (.reg k53_8))))))) (.seq (.reg k53_9) (.seq (.reg k53_10) (.seq (.reg k53_11) (.seq (.reg k53_12) (.seq (.reg k53_13) (.seq (.reg k53_14) (.seq (.reg k53_15) (.seq (.reg k53_16) .ret)))))))))))
def F53 : AFn := ⟨2, 58, k53, [(.c 4 (some 68)), (.t 5)]⟩
theorem F53_ok : cfn Try.prog [26,27,28,29,32,34,36,37,38,39,41,42,50,51,52,53,54,55,56,57,58,59,60,61,62,63,64,65,66,67,68,69,70,71,72,73,74,75,76,77,78,79,80,83,84,85,86,87,88,89,99,100,101,102,103,104,105,108,110,112,113,114,115,116,117,118,119,120,121,122,123,124,125,126,128,129,131,132,133,134,135,136,137,138,139,140,143,144,146,147,148,149,150,151,152,153,156,157,158,159,160,161,162] Try.f53 = some F53 := by kernel_rfl
theorem f53_at : Try.prog.funcs[53]? = some Try.f53 := by kernel_rfl
theorem f53_fn : okFn Try.prog 53 = true := by kernel_rfl

def k66_0 : List AO := [o1 1 (.bx 2 (.t 0)), o1 2 (.mv (.k (.c (.p (.int .i64 0)))))]
def k66_1 : List AO := [o1 3 (.mv (.k (.c (.p (.int .i64 16)))))]
def k66_2 : List AO := [o1 6 (.fa 1 1 (.t 1)), o1 7 (.ld none (.t 6)), o1 8 (.ln (.t 7)), o1 9 (.mv (.k (.c (.p (.int .i64 0)))))]
def k66_3 : List AO := [o1 10 (.cmp .lt (.t 9) (.t 8))]
def k66_4 : List AO := [o1 11 (.is 6 (.t 7) (.t 9)), o1 12 (.ld (some 6) (.t 11)), o1 5 (.al [(.p (.bool false)), (c16 0), (c32 0), (c16 0), (b8 0), (.p (.string (str [])))]), o0 (.st 6 (.t 5) (.t 12))]
def k66_5 : List AO := [o1 13 (.mv (.t 3)), o1 14 (.ari .add (.t 13) (.k (.c (.p (.int .i64 1))))), o1 3 (.mv (.t 14))]
def k66_6 : List AO := [o1 15 (.fa 0 1 (.t 5)), o1 16 (.ld none (.t 15))]
def k66_7 : List AO := [o1 17 (.mv (.t 3)), o1 18 (.fa 5 1 (.t 5)), o1 19 (.ld none (.t 18)), o1 20 (.lns (.t 19)), o1 21 (.ari .add (.k (.c (.p (.int .i64 10)))) (.t 20)), o1 22 (.ari .add (.t 17) (.t 21)), o1 3 (.mv (.t 22))]
def k66_8 : List AO := [o1 23 (.ari .add (.t 9) (.k (.c (.p (.int .i64 1))))), o1 9 (.mv (.t 23))]
def k66_9 : List AO := [o1 24 (.mv (.t 3)), o1 2 (.mv (.t 24))]
def k66 : AC := (.seq (.reg k66_0) (.seq (.reg k66_1) (.seq (.seq (.reg k66_2) (.block 0 (.loop (.seq (.reg k66_3) (.seq (.cond (.t 10) .skip (.exit 0)) (.seq (.block 1 (.seq (.reg k66_4) (.seq (.reg k66_5) (.seq (.reg k66_6) (.cond (.t 16) (.reg k66_7) .skip))))) (.reg k66_8))))))) (.seq (.reg k66_9) .ret))))
def F66 : AFn := ⟨1, 25, k66, [(.t 2)]⟩
theorem F66_ok : cfn Try.prog [26,27,28,29,32,34,36,37,38,39,41,42,50,51,52,53,54,55,56,57,58,59,60,61,62,63,64,65,66,67,68,69,70,71,72,73,74,75,76,77,78,79,80,83,84,85,86,87,88,89,99,100,101,102,103,104,105,108,110,112,113,114,115,116,117,118,119,120,121,122,123,124,125,126,128,129,131,132,133,134,135,136,137,138,139,140,143,144,146,147,148,149,150,151,152,153,156,157,158,159,160,161,162] Try.f66 = some F66 := by kernel_rfl
theorem f66_at : Try.prog.funcs[66]? = some Try.f66 := by kernel_rfl
theorem f66_fn : okFn Try.prog 66 = true := by kernel_rfl

def k65_0 : List AO := [o1 1 (.bx 2 (.t 0)), o1 2 (.mv (.k (.c (.p (.bool false)))))]
def k65_1 : List AO := [o1 5 (.fa 1 1 (.t 1)), o1 6 (.ld none (.t 5)), o1 7 (.ln (.t 6)), o1 8 (.cmp .gt (.t 7) (.k (.c (.p (.int .i64 15))))), o1 9 (.mv (.t 8)), og 10 9 false (.fa 1 1 (.t 1)), og 11 9 false (.ld none (.t 10)), og 12 9 false (.ln (.t 11)), og 13 9 false (.cmp .gt (.t 12) (.k (.c (.p (.int .i64 0))))), og 14 9 false (.mv (.t 13)), og 15 14 true (.fa 1 1 (.t 1)), og 16 14 true (.ld none (.t 15)), og 17 14 true (.fa 1 1 (.t 1)), og 18 14 true (.ld none (.t 17)), og 19 14 true (.ln (.t 18)), og 20 14 true (.ari .sub (.t 19) (.k (.c (.p (.int .i64 1))))), og 21 14 true (.is 6 (.t 16) (.t 20)), og 22 14 true (.fa 0 1 (.t 21)), og 23 14 true (.ld none (.t 22)), og 24 14 true (.not (.t 23)), og 25 9 false (.pk (.t 14) (.t 24) (.k (.c (.p (.bool false))))), o1 26 (.pk (.t 9) (.k (.c (.p (.bool true)))) (.t 25))]
def k65_2 : List AO := [o1 2 (.mv (.k (.c (.p (.bool false)))))]
def k65_3 : List AO := [o1 27 (.fa 1 1 (.t 1)), o1 28 (.ld none (.t 27)), o1 29 (.ln (.t 28)), o1 30 (.mv (.k (.c (.p (.int .i64 0)))))]
def k65_4 : List AO := [o1 31 (.cmp .lt (.t 30) (.t 29))]
def k65_5 : List AO := [o1 32 (.is 6 (.t 28) (.t 30)), o1 33 (.ld (some 6) (.t 32)), o1 4 (.al [(.p (.bool false)), (c16 0), (c32 0), (c16 0), (b8 0), (.p (.string (str [])))]), o0 (.st 6 (.t 4) (.t 33))]
def k65_6 : List AO := [o1 34 (.fa 0 1 (.t 4)), o1 35 (.ld none (.t 34)), o1 36 (.not (.t 35)), o1 37 (.mv (.t 36)), og 38 37 true (.ld (some 6) (.t 4)), og 39 37 true (.bd [(.p (.bool false)), (c16 0), (c32 0), (c16 0), (b8 0), (.p (.string (str [])))] []), og 40 37 true (.eqg true [(1, .b), (1, (.i .u16)), (1, (.i .u32)), (1, (.i .u16)), (1, (.i .u8)), (1, .s)] (.t 38) (.t 39)), o1 41 (.pk (.t 37) (.t 40) (.k (.c (.p (.bool false))))), o1 42 (.mv (.t 41)), og 43 42 false (.fa 5 1 (.t 4)), og 44 42 false (.ld none (.t 43)), og 45 42 false (.lns (.t 44)), og 46 42 false (.cmp .gt (.t 45) (.k (.c (.p (.int .i64 66))))), o1 47 (.pk (.t 42) (.k (.c (.p (.bool true)))) (.t 46))]
def k65_7 : List AO := [o1 2 (.mv (.k (.c (.p (.bool false)))))]
def k65_8 : List AO := [o1 48 (.ari .add (.t 30) (.k (.c (.p (.int .i64 1))))), o1 30 (.mv (.t 48))]
def k65_9 : List AO := [o1 49 (.ld (some 2) (.t 1)), o1 50 (.callp 66 [(.t 49)]), o1 51 (.cmp .le (.t 50) (.k (.c (.p (.int .i64 224))))), o1 2 (.mv (.t 51))]
def k65 : AC := (.seq (.reg k65_0) (.seq (.seq (.reg k65_1) (.cond (.t 26) (.seq (.reg k65_2) .ret) .skip)) (.seq (.seq (.reg k65_3) (.block 0 (.loop (.seq (.reg k65_4) (.seq (.cond (.t 31) .skip (.exit 0)) (.seq (.block 1 (.seq (.reg k65_5) (.seq (.reg k65_6) (.cond (.t 47) (.seq (.reg k65_7) .ret) .skip)))) (.reg k65_8))))))) (.seq (.reg k65_9) .ret))))
def F65 : AFn := ⟨1, 52, k65, [(.t 2)]⟩
theorem F65_ok : cfn Try.prog [26,27,28,29,32,34,36,37,38,39,41,42,50,51,52,53,54,55,56,57,58,59,60,61,62,63,64,65,66,67,68,69,70,71,72,73,74,75,76,77,78,79,80,83,84,85,86,87,88,89,99,100,101,102,103,104,105,108,110,112,113,114,115,116,117,118,119,120,121,122,123,124,125,126,128,129,131,132,133,134,135,136,137,138,139,140,143,144,146,147,148,149,150,151,152,153,156,157,158,159,160,161,162] Try.f65 = some F65 := by kernel_rfl
theorem f65_at : Try.prog.funcs[65]? = some Try.f65 := by kernel_rfl
theorem f65_fn : okFn Try.prog 65 = true := by kernel_rfl

def k60_0 : List AO := [o1 3 (.bx 2 (.t 1)), o1 4 (.al (rep 224 (b8 0))), o1 5 (.mv (.k (.c (.p (.int .i64 0)))))]
def k60_1 : List AO := [o1 11 (.ld (some 2) (.t 3)), o1 12 (.callp 65 [(.t 11)]), o1 13 (.not (.t 12))]
def k60_2 : List AO := [o1 14 (.bd (rep 224 (b8 0)) []), o0 (.st 224 (.t 4) (.t 14)), o1 5 (.mv (.k (.c (.p (.int .i64 1)))))]
def k60_3 : List AO := [o1 6 (.al (rep 224 (b8 0)))]
def k60_4 : List AO := [o1 15 (.fa 1 1 (.t 3)), o1 16 (.ld none (.t 15)), o1 17 (.ln (.t 16)), o1 18 (.cvi .u8 (.t 17)), o1 19 (.ia 224 1 (.t 6) (.k (.c (.p (.int .i64 15))))), o0 (.st 1 (.t 19) (.t 18))]
def k60_5 : List AO := [o1 7 (.mv (.k (.c (.p (.int .i64 16)))))]
def k60_6 : List AO := [o1 20 (.fa 1 1 (.t 3)), o1 21 (.ld none (.t 20)), o1 22 (.ln (.t 21)), o1 23 (.mv (.k (.c (.p (.int .i64 0)))))]
def k60_7 : List AO := [o1 24 (.cmp .lt (.t 23) (.t 22))]
def k60_8 : List AO := [o1 25 (.is 6 (.t 21) (.t 23)), o1 26 (.ld (some 6) (.t 25)), o1 9 (.al [(.p (.bool false)), (c16 0), (c32 0), (c16 0), (b8 0), (.p (.string (str [])))]), o0 (.st 6 (.t 9) (.t 26))]
def k60_9 : List AO := [o1 10 (.mv (.k (.c (.p (.string (str [0]))))))]
def k60_10 : List AO := [o1 27 (.fa 0 1 (.t 9)), o1 28 (.ld none (.t 27))]
def k60_11 : List AO := [o1 29 (.fa 1 1 (.t 9)), o1 30 (.ld none (.t 29)), o1 31 (.cvi .u64 (.t 30)), o1 32 (.callp 104 [(.t 31), (.k (.c (.p (.int .i64 2))))]), o1 33 (.ari .add (.k (.c (.p (.string (str [1]))))) (.t 32)), o1 34 (.fa 2 1 (.t 9)), o1 35 (.ld none (.t 34)), o1 36 (.cvi .u64 (.t 35)), o1 37 (.callp 104 [(.t 36), (.k (.c (.p (.int .i64 4))))]), o1 38 (.ari .add (.t 33) (.t 37)), o1 39 (.fa 3 2 (.t 9)), o1 40 (.fa 0 1 (.t 39)), o1 41 (.ld none (.t 40)), o1 42 (.cvi .u64 (.t 41)), o1 43 (.callp 104 [(.t 42), (.k (.c (.p (.int .i64 2))))]), o1 44 (.ari .add (.t 38) (.t 43)), o1 45 (.fa 3 2 (.t 9)), o1 46 (.fa 1 1 (.t 45)), o1 47 (.ld none (.t 46)), o1 48 (.fa 5 1 (.t 9)), o1 49 (.ld none (.t 48)), o1 50 (.lns (.t 49)), o1 51 (.cvi .u8 (.t 50)), o1 52 (.bs 1 2 5 [(b8 0)] [(0, (.t 47)), (1, (.t 51))]), o1 53 (.cvs (.t 52)), o1 54 (.ari .add (.t 44) (.t 53)), o1 55 (.fa 5 1 (.t 9)), o1 56 (.ld none (.t 55)), o1 57 (.ari .add (.t 54) (.t 56)), o1 10 (.mv (.t 57))]
def k60_12 : List AO := [o1 58 (.mv (.t 7)), o1 59 (.mv (.t 7)), o1 60 (.sla 224 1 (.t 6) (some (.t 59)) none), o1 61 (.mv (.t 10)), o1 62 (.cpy 1 (.t 60) (.t 61)), o1 63 (.ari .add (.t 58) (.t 62)), o1 7 (.mv (.t 63))]
def k60_13 : List AO := [o1 64 (.ari .add (.t 23) (.k (.c (.p (.int .i64 1))))), o1 23 (.mv (.t 64))]
def k60_14 : List AO := [o1 65 (.mv (.t 0)), o1 66 (.fa 0 1 (.t 3)), o1 67 (.ld none (.t 66)), o1 68 (.ld (some 224) (.t 6)), o1 69 (.callp 117 [(.k (.c (b8 2))), (.t 65), (.t 67), (.t 68)]), o0 (.st 224 (.t 4) (.t 69)), o1 5 (.mv (.k (.c (.p (.int .i64 0)))))]
def k60 : AC := (.seq (.reg k60_0) (.seq (.seq (.reg k60_1) (.cond (.t 13) (.seq (.reg k60_2) .ret) .skip)) (.seq (.reg k60_3) (.seq (.reg k60_4) (.seq (.reg k60_5) (.seq (.seq (.reg k60_6) (.block 0 (.loop (.seq (.reg k60_7) (.seq (.cond (.t 24) .skip (.exit 0)) (.seq (.block 1 (.seq (.reg k60_8) (.seq (.reg k60_9) (.seq (.seq (.reg k60_10) (.cond (.t 28) (.reg k60_11) .skip)) (.reg k60_12))))) (.reg k60_13))))))) (.seq (.reg k60_14) .ret)))))))
def F60 : AFn := ⟨2, 70, k60, [(.c 4 (some 224)), (.t 5)]⟩
theorem F60_ok : cfn Try.prog [26,27,28,29,32,34,36,37,38,39,41,42,50,51,52,53,54,55,56,57,58,59,60,61,62,63,64,65,66,67,68,69,70,71,72,73,74,75,76,77,78,79,80,83,84,85,86,87,88,89,99,100,101,102,103,104,105,108,110,112,113,114,115,116,117,118,119,120,121,122,123,124,125,126,128,129,131,132,133,134,135,136,137,138,139,140,143,144,146,147,148,149,150,151,152,153,156,157,158,159,160,161,162] Try.f60 = some F60 := by kernel_rfl
theorem f60_at : Try.prog.funcs[60]? = some Try.f60 := by kernel_rfl
theorem f60_fn : okFn Try.prog 60 = true := by kernel_rfl

def k63_0 : List AO := [o1 3 (.bx 224 (.t 1)), o1 4 (.al [(c64 0), (.z 143)]), o1 5 (.mv (.k (.c (.p (.int .i64 0)))))]
def k63_1 : List AO := [o1 17 (.mv (.t 0)), o1 18 (.ld (some 224) (.t 3)), o1 19 (.callp 114 [(.k (.c (b8 2))), (.t 17), (.t 18)]), o1 20 (.not (.t 19))]
def k63_2 : List AO := [o1 21 (.bd [(c64 0), (.z 143)] []), o0 (.st 2 (.t 4) (.t 21)), o1 5 (.mv (.k (.c (.p (.int .i64 2)))))]
def k63_3 : List AO := [o1 22 (.sla 224 1 (.t 3) none none), o1 23 (.cvs (.t 22)), o1 6 (.mv (.t 23))]
def k63_4 : List AO := [o1 24 (.ld (some 224) (.t 3)), o1 25 (.callp 57 [(.t 24)]), o1 26 (.bd [(c64 0), (.z 143)] [(0, (1, (.t 25)))]), o1 7 (.al [(c64 0), (.z 143)]), o0 (.st 2 (.t 7) (.t 26))]
def k63_5 : List AO := [o1 8 (.mv (.k (.c (.p (.int .i64 16)))))]
def k63_6 : List AO := [o1 27 (.ia 224 1 (.t 3) (.k (.c (.p (.int .i64 15))))), o1 28 (.ld none (.t 27)), o1 29 (.cvi .i64 (.t 28)), o1 30 (.mv (.k (.c (.p (.int .i64 0)))))]
def k63_7 : List AO := [o1 31 (.cmp .lt (.t 30) (.t 29))]
def k63_8 : List AO := [o1 9 (.al [(.p (.bool false)), (c16 0), (c32 0), (c16 0), (b8 0), (.p (.string (str [])))])]
def k63_9 : List AO := [o1 32 (.mv (.t 8)), o1 33 (.mv (.t 6)), o1 34 (.lns (.t 33)), o1 35 (.cmp .ge (.t 32) (.t 34)), o1 36 (.mv (.t 35)), og 37 36 false (.mv (.t 6)), og 38 36 false (.mv (.t 8)), og 39 36 false (.ix (.t 37) (.t 38)), og 40 36 false (.cmp .gt (.t 39) (.k (.c (b8 1)))), o1 41 (.pk (.t 36) (.k (.c (.p (.bool true)))) (.t 40))]
def k63_10 : List AO := [o1 42 (.bd [(c64 0), (.z 143)] []), o0 (.st 2 (.t 4) (.t 42)), o1 5 (.mv (.k (.c (.p (.int .i64 2)))))]
def k63_11 : List AO := [o1 43 (.mv (.t 6)), o1 44 (.mv (.t 8)), o1 45 (.ix (.t 43) (.t 44)), o1 46 (.cmp .eq (.t 45) (.k (.c (b8 1)))), o1 47 (.fa 0 1 (.t 9)), o0 (.st 1 (.t 47) (.t 46))]
def k63_12 : List AO := [o1 48 (.mv (.t 8)), o1 49 (.ari .add (.t 48) (.k (.c (.p (.int .i64 1))))), o1 8 (.mv (.t 49))]
def k63_13 : List AO := [o1 50 (.fa 0 1 (.t 9)), o1 51 (.ld none (.t 50))]
def k63_14 : List AO := [o1 52 (.mv (.t 8)), o1 53 (.ari .add (.t 52) (.k (.c (.p (.int .i64 10))))), o1 54 (.mv (.t 6)), o1 55 (.lns (.t 54)), o1 56 (.cmp .gt (.t 53) (.t 55)), o1 57 (.mv (.t 56)), og 58 57 false (.mv (.t 8)), og 59 57 false (.ari .add (.t 58) (.k (.c (.p (.int .i64 10))))), og 60 57 false (.mv (.t 6)), og 61 57 false (.mv (.t 8)), og 62 57 false (.ari .add (.t 61) (.k (.c (.p (.int .i64 9))))), og 63 57 false (.ix (.t 60) (.t 62)), og 64 57 false (.cvi .i64 (.t 63)), og 65 57 false (.ari .add (.t 59) (.t 64)), og 66 57 false (.mv (.t 6)), og 67 57 false (.lns (.t 66)), og 68 57 false (.cmp .gt (.t 65) (.t 67)), o1 69 (.pk (.t 57) (.k (.c (.p (.bool true)))) (.t 68))]
def k63_15 : List AO := [o1 70 (.bd [(c64 0), (.z 143)] []), o0 (.st 2 (.t 4) (.t 70)), o1 5 (.mv (.k (.c (.p (.int .i64 2)))))]
def k63_16 : List AO := [o1 72 (.mv (.t 6)), o1 73 (.mv (.t 8)), o1 74 (.callp 115 [(.t 72), (.t 73), (.k (.c (.p (.int .i64 2))))]), o1 71 (.mv (.t 74)), o1 75 (.ex 0 (.t 71)), o1 76 (.ex 1 (.t 71)), o1 10 (.mv (.t 75)), o1 11 (.mv (.t 76))]
def k63_17 : List AO := [o1 78 (.mv (.t 6)), o1 79 (.mv (.t 8)), o1 80 (.ari .add (.t 79) (.k (.c (.p (.int .i64 2))))), o1 81 (.callp 115 [(.t 78), (.t 80), (.k (.c (.p (.int .i64 4))))]), o1 77 (.mv (.t 81)), o1 82 (.ex 0 (.t 77)), o1 83 (.ex 1 (.t 77)), o1 12 (.mv (.t 82)), o1 13 (.mv (.t 83))]
def k63_18 : List AO := [o1 85 (.mv (.t 6)), o1 86 (.mv (.t 8)), o1 87 (.ari .add (.t 86) (.k (.c (.p (.int .i64 6))))), o1 88 (.callp 115 [(.t 85), (.t 87), (.k (.c (.p (.int .i64 2))))]), o1 84 (.mv (.t 88)), o1 89 (.ex 0 (.t 84)), o1 90 (.ex 1 (.t 84)), o1 14 (.mv (.t 89)), o1 15 (.mv (.t 90))]
def k63_19 : List AO := [o1 91 (.mv (.t 10)), o1 92 (.cvi .u16 (.t 91)), o1 93 (.mv (.t 12)), o1 94 (.cvi .u32 (.t 93)), o1 95 (.mv (.t 14)), o1 96 (.cvi .u16 (.t 95)), o1 97 (.mv (.t 6)), o1 98 (.mv (.t 8)), o1 99 (.ari .add (.t 98) (.k (.c (.p (.int .i64 8))))), o1 100 (.ix (.t 97) (.t 99)), o1 101 (.bd [(c16 0), (b8 0)] [(0, (1, (.t 96))), (1, (1, (.t 100)))]), o1 102 (.fa 1 1 (.t 9)), o0 (.st 1 (.t 102) (.t 92)), o1 103 (.fa 2 1 (.t 9)), o0 (.st 1 (.t 103) (.t 94)), o1 104 (.fa 3 2 (.t 9)), o0 (.st 2 (.t 104) (.t 101))]
def k63_20 : List AO := [o1 105 (.mv (.t 6)), o1 106 (.mv (.t 8)), o1 107 (.ari .add (.t 106) (.k (.c (.p (.int .i64 9))))), o1 108 (.ix (.t 105) (.t 107)), o1 109 (.cvi .i64 (.t 108)), o1 16 (.mv (.t 109))]
def k63_21 : List AO := [o1 110 (.mv (.t 6)), o1 111 (.mv (.t 8)), o1 112 (.ari .add (.t 111) (.k (.c (.p (.int .i64 10))))), o1 113 (.mv (.t 8)), o1 114 (.ari .add (.t 113) (.k (.c (.p (.int .i64 10))))), o1 115 (.mv (.t 16)), o1 116 (.ari .add (.t 114) (.t 115)), o1 117 (.sls (.t 110) (some (.t 112)) (some (.t 116))), o1 118 (.fa 5 1 (.t 9)), o0 (.st 1 (.t 118) (.t 117))]
def k63_22 : List AO := [o1 119 (.mv (.t 8)), o1 120 (.mv (.t 16)), o1 121 (.ari .add (.k (.c (.p (.int .i64 10)))) (.t 120)), o1 122 (.ari .add (.t 119) (.t 121)), o1 8 (.mv (.t 122))]
def k63_23 : List AO := [o1 123 (.fa 1 1 (.t 7)), o1 124 (.ld none (.t 123)), o1 125 (.ld (some 6) (.t 9)), o1 126 (.bs 6 1 143 [(.p (.bool false)), (c16 0), (c32 0), (c16 0), (b8 0), (.p (.string (str [])))] [(0, (.t 125))]), o1 127 (.ap 6 32 143 (.t 124) (.t 126)), o1 128 (.fa 1 1 (.t 7)), o0 (.st 1 (.t 128) (.t 127))]
def k63_24 : List AO := [o1 129 (.ari .add (.t 30) (.k (.c (.p (.int .i64 1))))), o1 30 (.mv (.t 129))]
def k63_25 : List AO := [o1 130 (.mv (.t 8)), o1 131 (.mv (.t 6)), o1 132 (.lns (.t 131)), o1 133 (.cmp .lt (.t 130) (.t 132))]
def k63_26 : List AO := [o1 136 (.mv (.t 6)), o1 137 (.mv (.t 8)), o1 138 (.ix (.t 136) (.t 137)), o1 139 (.cmp .ne (.t 138) (.k (.c (b8 0))))]
def k63_27 : List AO := [o1 140 (.bd [(c64 0), (.z 143)] []), o0 (.st 2 (.t 4) (.t 140)), o1 5 (.mv (.k (.c (.p (.int .i64 2)))))]
def k63_28 : List AO := [o1 134 (.mv (.t 8)), o1 135 (.ari .add (.t 134) (.k (.c (.p (.int .i64 1))))), o1 8 (.mv (.t 135))]
def k63_29 : List AO := [o1 141 (.ld (some 2) (.t 7)), o1 142 (.callp 65 [(.t 141)]), o1 143 (.not (.t 142))]
def k63_30 : List AO := [o1 144 (.bd [(c64 0), (.z 143)] []), o0 (.st 2 (.t 4) (.t 144)), o1 5 (.mv (.k (.c (.p (.int .i64 2)))))]
def k63_31 : List AO := [o1 145 (.ld (some 2) (.t 7)), o0 (.st 2 (.t 4) (.t 145)), o1 5 (.mv (.k (.c (.p (.int .i64 0)))))]
def k63 : AC := (.seq (.reg k63_0) (.seq (.seq (.reg k63_1) (.cond (.t 20) (.seq (.reg k63_2) .ret) .skip)) (.seq (.reg k63_3) (.seq (.reg k63_4) (.seq (.reg k63_5) (.seq (.seq (.reg k63_6) (.block 0 (.loop (.seq (.reg k63_7) (.seq (.cond (.t 31) .skip (.exit 0)) (.seq (.block 1 (.seq (.reg k63_8) (.seq (.seq (.reg k63_9) (.cond (.t 41) (.seq (.reg k63_10) .ret) .skip)) (.seq (.reg k63_11) (.seq (.reg k63_12) (.seq (.seq (.reg k63_13) (.cond (.t 51) (.seq (.seq (.reg k63_14) (.cond (.t 69) (.seq (.reg k63_15) .ret) .skip)) (.seq (.reg k63_16) (.seq (.reg k63_17) (.seq (.reg k63_18) (.seq (.reg k63_19) (.seq (.reg k63_20) (.seq (.reg k63_21) (.reg k63_22)))))))) .skip)) (.reg k63_23))))))) (.reg k63_24))))))) (.seq (.block 2 (.loop (.seq (.seq (.reg k63_25) (.cond (.t 133) .skip (.exit 2))) (.seq (.block 3 (.seq (.reg k63_26) (.cond (.t 139) (.seq (.reg k63_27) .ret) .skip))) (.reg k63_28))))) (.seq (.seq (.reg k63_29) (.cond (.t 143) (.seq (.reg k63_30) .ret) .skip)) (.seq (.reg k63_31) .ret)))))))))
def F63 : AFn := ⟨2, 146, k63, [(.c 4 (some 2)), (.t 5)]⟩
theorem F63_ok : cfn Try.prog [26,27,28,29,32,34,36,37,38,39,41,42,50,51,52,53,54,55,56,57,58,59,60,61,62,63,64,65,66,67,68,69,70,71,72,73,74,75,76,77,78,79,80,83,84,85,86,87,88,89,99,100,101,102,103,104,105,108,110,112,113,114,115,116,117,118,119,120,121,122,123,124,125,126,128,129,131,132,133,134,135,136,137,138,139,140,143,144,146,147,148,149,150,151,152,153,156,157,158,159,160,161,162] Try.f63 = some F63 := by kernel_rfl
theorem f63_at : Try.prog.funcs[63]? = some Try.f63 := by kernel_rfl
theorem f63_fn : okFn Try.prog 63 = true := by kernel_rfl

def k69_0 : List AO := [o1 1 (.bx 2 (.t 0)), o1 2 (.al (rep 224 (b8 0)))]
def k69_1 : List AO := [o1 5 (.fa 0 1 (.t 1)), o1 6 (.ld none (.t 5))]
def k69_2 : List AO := [o1 8 (.fa 1 1 (.t 1)), o1 9 (.ld none (.t 8)), o1 10 (.bd [(c64 0), (.z 143)] []), o1 11 (.callp 60 [(.t 9), (.t 10)]), o1 7 (.mv (.t 11)), o1 12 (.ex 0 (.t 7)), o1 13 (.ex 1 (.t 7)), o1 3 (.al (rep 224 (b8 0))), o0 (.st 224 (.t 3) (.t 12)), o1 4 (.mv (.t 13))]
def k69_3 : List AO := [o1 14 (.ld (some 224) (.t 3)), o0 (.st 224 (.t 2) (.t 14))]
def k69_4 : List AO := [o1 15 (.fa 1 1 (.t 1)), o1 16 (.ld none (.t 15)), o1 17 (.bd ([(c64 0), (c32 0), (c16 0)] ++ rep 65 (b8 0)) []), o1 18 (.callp 55 [(.t 16), (.t 17)]), o0 (.st 224 (.t 2) (.t 18))]
def k69 : AC := (.seq (.reg k69_0) (.seq (.seq (.reg k69_1) (.cond (.t 6) (.seq (.reg k69_2) (.seq (.reg k69_3) .ret)) .skip)) (.seq (.reg k69_4) .ret)))
def F69 : AFn := ⟨1, 19, k69, [(.c 2 (some 224))]⟩
theorem F69_ok : cfn Try.prog [26,27,28,29,32,34,36,37,38,39,41,42,50,51,52,53,54,55,56,57,58,59,60,61,62,63,64,65,66,67,68,69,70,71,72,73,74,75,76,77,78,79,80,83,84,85,86,87,88,89,99,100,101,102,103,104,105,108,110,112,113,114,115,116,117,118,119,120,121,122,123,124,125,126,128,129,131,132,133,134,135,136,137,138,139,140,143,144,146,147,148,149,150,151,152,153,156,157,158,159,160,161,162] Try.f69 = some F69 := by kernel_rfl
theorem f69_at : Try.prog.funcs[69]? = some Try.f69 := by kernel_rfl
theorem f69_fn : okFn Try.prog 69 = true := by kernel_rfl

def k71_0 : List AO := [o1 2 (.bx 2 (.t 0)), o1 3 (.bx 224 (.t 1)), o1 4 (.mv (.k (.c (.p (.bool false)))))]
def k71_1 : List AO := [o1 9 (.fa 0 1 (.t 2)), o1 10 (.ld none (.t 9))]
def k71_2 : List AO := [o1 12 (.fa 1 1 (.t 2)), o1 13 (.ld none (.t 12)), o1 14 (.ld (some 224) (.t 3)), o1 15 (.callp 63 [(.t 13), (.t 14)]), o1 11 (.mv (.t 15)), o1 16 (.ex 0 (.t 11)), o1 17 (.ex 1 (.t 11)), o1 5 (.al [(c64 0), (.z 143)]), o0 (.st 2 (.t 5) (.t 16)), o1 6 (.mv (.t 17))]
def k71_3 : List AO := [o1 18 (.mv (.t 6)), o1 19 (.cmp .eq (.t 18) (.k (.c (.p (.int .i64 0))))), o1 4 (.mv (.t 19))]
def k71_4 : List AO := [o1 21 (.fa 1 1 (.t 2)), o1 22 (.ld none (.t 21)), o1 23 (.ld (some 224) (.t 3)), o1 24 (.callp 53 [(.t 22), (.t 23)]), o1 20 (.mv (.t 24)), o1 25 (.ex 0 (.t 20)), o1 26 (.ex 1 (.t 20)), o1 7 (.al ([(c64 0), (c32 0), (c16 0)] ++ rep 65 (b8 0))), o0 (.st 68 (.t 7) (.t 25)), o1 8 (.mv (.t 26))]
def k71_5 : List AO := [o1 27 (.mv (.t 8)), o1 28 (.cmp .eq (.t 27) (.k (.c (.p (.int .i64 0))))), o1 4 (.mv (.t 28))]
def k71 : AC := (.seq (.reg k71_0) (.seq (.seq (.reg k71_1) (.cond (.t 10) (.seq (.reg k71_2) (.seq (.reg k71_3) .ret)) .skip)) (.seq (.reg k71_4) (.seq (.reg k71_5) .ret))))
def F71 : AFn := ⟨2, 29, k71, [(.t 4)]⟩
theorem F71_ok : cfn Try.prog [26,27,28,29,32,34,36,37,38,39,41,42,50,51,52,53,54,55,56,57,58,59,60,61,62,63,64,65,66,67,68,69,70,71,72,73,74,75,76,77,78,79,80,83,84,85,86,87,88,89,99,100,101,102,103,104,105,108,110,112,113,114,115,116,117,118,119,120,121,122,123,124,125,126,128,129,131,132,133,134,135,136,137,138,139,140,143,144,146,147,148,149,150,151,152,153,156,157,158,159,160,161,162] Try.f71 = some F71 := by kernel_rfl
theorem f71_at : Try.prog.funcs[71]? = some Try.f71 := by kernel_rfl
theorem f71_fn : okFn Try.prog 71 = true := by kernel_rfl

end Go.Eng
